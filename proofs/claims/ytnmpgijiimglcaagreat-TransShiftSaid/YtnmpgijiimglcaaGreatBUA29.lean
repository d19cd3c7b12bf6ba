/-
  gnomonlaw16.TransShift.
  From the row to the walk: an octagon, a slice of int64 as they come in; the row's end 'true, and the input reads as it did'.
  From the row to the walk: numbers, operands, ranges as they come in.
  safe.endsOf, safe.ends.has, gnomonref17.ends: what they answer.
-/
import Derived.Test.YtnmpgijiimglcaaGreatBUA24
import Derived.Test.YtnmpgijiimglcaaGreatBUA28
import Derived.Test.YtnmpgijiimglcaaGreatBUA01
import Derived.ProofKit
import Derived.SizedLaws
import Derived.Lib.SmallJoins
import Derived.Test.YtnmpgijiimglcaaGreatBUA12
import Derived.Test.YtnmpgijiimglcaaGreatBUA08
import Derived.Test.YtnmpgijiimglcaaGreatBUA11
import Derived.Test.YtnmpgijiimglcaaGreatBUA06
import Derived.Test.YtnmpgijiimglcaaGreatBUA14
namespace Go.Proofs.YtnmpgijiimglcaaGreat
section
open Go.RowKit
attribute [local go_sem ↓] Go.wp_at_zero Go.wp_at_succ

theorem tEdge_sh4 (o : O) (v k : Int) (hk : -2147483648 ≤ k ∧ k ≤ 2147483647) (A : Option Addr) (cap : Nat) (w : World) (B : Nat) (hB : B ≤ w.heap.size) (hx : Rd w w.heap.size A o.m) (hm : o.m.length ≤ 17592186044416) :
    Calls Tryz.prog 28 #[.agg #[.int .i64 o.n, .bool o.e, .slice A o.m.length cap], .agg #[.int .i64 0, .int .i64 0, .int .i64 4, .int .i64 v, .int .i64 (-1), .int .i64 0, .int .i64 v, .int .i64 0, .int .i64 (-1), .int .i64 k]] w (ErrSx w B (transAns o (shE 4 v k)) (transErr o (shE 4 v k))) := by
  by_cases h : 0 ≤ v ∧ v < o.n
  · obtain ⟨d, rfl⟩ : ∃ d : Nat, v = (d : Int) := ⟨v.toNat, by omega⟩
    exact tEdge_self o 0 0 (-1) 0 0 (-1) k d (by unfold I64; omega) (by omega) (by omega) h.2 A cap w hx hm B hB
  · exact tEdge_any o 0 0 4 v (-1) 0 v 0 (-1) k A cap w hx hm B hB fun he => absurd (shE_err he).2 h
theorem tEdge_sh5 (o : O) (v k : Int) (hk : -2147483648 ≤ k ∧ k ≤ 2147483647) (A : Option Addr) (cap : Nat) (w : World) (B : Nat) (hB : B ≤ w.heap.size) (hx : Rd w w.heap.size A o.m) (hm : o.m.length ≤ 17592186044416) :
    Calls Tryz.prog 28 #[.agg #[.int .i64 o.n, .bool o.e, .slice A o.m.length cap], .agg #[.int .i64 0, .int .i64 0, .int .i64 5, .int .i64 v, .int .i64 (-1), .int .i64 0, .int .i64 v, .int .i64 0, .int .i64 (-1), .int .i64 k]] w (ErrSx w B (transAns o (shE 5 v k)) (transErr o (shE 5 v k))) := by
  by_cases h : 0 ≤ v ∧ v < o.n
  · obtain ⟨d, rfl⟩ : ∃ d : Nat, v = (d : Int) := ⟨v.toNat, by omega⟩
    exact tEdge_self5 o 0 0 (-1) 0 0 (-1) k d (by unfold I64; omega) (by omega) (by omega) h.2 A cap w hx hm B hB
  · exact tEdge_any o 0 0 5 v (-1) 0 v 0 (-1) k A cap w hx hm B hB fun he => absurd (shE_err5 he).2 h
/-- A cell that may stand: without end, or within 2^40. -/
def SmallV (v : Int) : Prop := v = 9223372036854775807 ∨ (-1099511627776 ≤ v ∧ v ≤ 1099511627776)
theorem transErr_check {o : O} {v k : Int} (h : transErr o (shE 4 v k) = 0) : check o = 0 := (shE_err h).1
theorem transAns_check {o : O} {v k : Int} (h : transErr o (shE 4 v k) = 0) : (transAns o (shE 4 v k)).m.length ≤ 17592186044416 := by
  obtain ⟨hc, v0, v1⟩ := shE_err h
  have ok : OkO o.n o := ⟨rfl, hc⟩
  have okc := ok.close
  unfold transAns
  rw [if_pos h]
  unfold transO
  split
  · exact OkO.small okc
  · rename_i he
    refine OkO.small (n := o.n) (edgeO_ok okc (by simpa using he) (by omega) ?_)
    exact shE_right.2 ⟨v0, v1⟩

set_option maxRecDepth 8000 in
set_option maxHeartbeats 8000000 in
theorem transShift_walk (o : O) (v k : Int) (hk : -2147483648 ≤ k ∧ k ≤ 2147483647) (A : Option Addr) (cap : Nat) (w : World) (hx : Rd w w.heap.size A o.m) (hm : o.m.length ≤ 17592186044416) :
    Calls Tryz.prog 5 #[.agg #[.int .i64 o.n, .bool o.e, .slice A o.m.length cap], .int .i64 v, .int .i32 k] w fun e w' => e = .returned (.bool true) ∧ Below w.heap.size w w' := by
  have HT := hid (fun W (hB : w.heap.size ≤ W.heap.size) (h : Rd W W.heap.size A o.m) => tEdge_sh4 o v k hk A cap W w.heap.size hB h hm)
  have HT2 := hid (fun c (he : transErr o (shE 4 v k) = 0) A1 W (hB : w.heap.size ≤ W.heap.size) (h : Rd W W.heap.size A1 (transAns o (shE 4 v k)).m) => tEdge_sh5 (transAns o (shE 4 v k)) v k hk A1 c W w.heap.size hB h (transAns_check he))
  have HN := hid (fun (he : transErr o (shE 4 v k) = 0) W (h : Rd W W.heap.size A o.m) => rnop_ok o (transErr_check he) 0 0 (-1) (-1) 0 (-1) 0 (-1) 0 A cap W h hm)
  have HLAW := hid (fun (hs : SmallM o.m) he => shift_there_back (o := o) (v := v) (k := k) hs hk he)
  have HSM := hid (fun (he : transErr o (shE 4 v k) = 0) => OkO.small ((⟨rfl, transErr_check he⟩ : OkO o.n o).close))
  generalize transErr (transAns o (shE 4 v k)) (shE 5 v k) = F at *
  generalize transAns (transAns o (shE 4 v k)) (shE 5 v k) = S at *
  generalize transErr o (shE 4 v k) = E at *
  generalize transAns o (shE 4 v k) = R at *
  generalize closeO o = C at *
  obtain ⟨p0, hb0, -⟩ := new_one w #[.int .i64 o.n, .bool o.e, .slice A o.m.length cap] 24
  have sx := Sx.of_rd (hx.below hb0)
  clear hx
  go_enter Tryz.func5, Tryz.ntmps5
  go_wp2_with fail
  generalize w.alloc (Obj.cells #[.int .i64 o.n, .bool o.e, .slice A o.m.length cap] 24) = w1 at *
  (with_reducible refine (known16_any w1).mono ?_)
  rintro e_w2 w2 ⟨rfl, hb_w2⟩
  replace p0 := p0.later hb_w2
  replace sx := sx.later hb_w2 hb0.size
  replace hb0 := bup hb0 hb_w2
  clear hb_w2
  obtain ⟨x0, x1, x2, fx⟩ := octbox p0
  have hr := sx.rd hb0.size
  go_wp2
  go_loopw [7] (fun t wq => wq = w2 ∧ ∃ i : Nat, i ≤ o.m.length ∧ t = .int .i64 i ∧ ∀ k, k < i → SmallV (gI o.m (k : Int))) (fun t _ => o.m.length - (Go.RowKit.intOf t).toNat)
  case atStart => exact ⟨rfl, 0, by omega, rfl, fun k h => by omega⟩
  case round =>
    obtain ⟨rfl, i, hi, rfl, hnr⟩ := hrel
    have HNR := hid hnr
    clear hnr
    by_cases hlt : i < o.m.length
    · have hlti : (i : Int) < (o.m.length : Int) := by omega
      obtain ⟨g1, o1, rfl, hg1, ci⟩ := hr i hlt
      obtain ⟨z, hz⟩ : ∃ z, z = gI o.m (i : Int) := ⟨_, rfl⟩
      rw [← hz] at ci
      have HZ := hid hz
      clear hz
      cases t1 : (z != 9223372036854775807) <;> cases t2 : decide (1099511627776 < z) <;> cases t3 : decide (z < -1099511627776)
      all_goals
        first
        | (go_wp2; go_ret; exact ⟨rfl, hb0⟩)
        | (have HG : Hid (SmallV (gI o.m (i : Int))) := hid (by rw [← HZ.out]; unfold SmallV; simp at t1 t2 t3; omega)
           go_wp2
           go_roundw
           case rel => exact ⟨by first | rfl | trivial, i + 1, by omega, by go_num, fun k h => if e : k = i then e ▸ HG.out else HNR.out k (by omega)⟩
           case measure => simp [Go.RowKit.intOf]; omega)
    · obtain rfl : i = o.m.length := by omega
      have HS : Hid (SmallM o.m) := hid (fun p => if h : p < o.m.length then HNR.out p h else by
        have e : gI o.m (p : Int) = 0 := by unfold gI; simp [List.getD_eq_getElem?_getD, Nat.le_of_not_lt h]
        rw [e]; right; omega)
      clear HNR hlt
      clear hr
      obtain ⟨p8, hbn, -⟩ := new_one wr #[.int .i64 0, .int .i64 0, .int .i64 4, .int .i64 v, .int .i64 (-1), .int .i64 0, .int .i64 v, .int .i64 0, .int .i64 (-1), .int .i64 k] 44
      have hg8 : w.heap.size ≤ wr.heap.size := hb0.size
      have hg0 : wr.heap.size ≠ w.heap.size := by have := p0.lt; omega
      replace p0 := p0.later hbn
      replace sx := sx.later hbn hb0.size
      replace hb0 := bup hb0 hbn
      clear hbn
      obtain ⟨u0, u1, u2, fu⟩ := octbox p0
      obtain ⟨y0, y1, y2, y3, y4, y5, y6, y7, y8, y9, fy⟩ := edgbox p8
      go_wp2_with fail
      clear u0 u1 u2 fu x0 x1 x2 fx y0 y1 y2 y3 y4 y5 y6 y7 y8 y9 fy
      generalize wr.alloc (Obj.cells #[.int .i64 0, .int .i64 0, .int .i64 4, .int .i64 v, .int .i64 (-1), .int .i64 0, .int .i64 v, .int .i64 0, .int .i64 (-1), .int .i64 k] 44) = w3 at *
      generalize wr.heap.size = g8 at *
      (with_reducible refine (HT.out w3 hb0.size (sx.rd hb0.size)).mono ?_)
      rintro e4 w4 ⟨A1, c1, rfl, sx1, hb4⟩
      replace p0 := p0.later hb4
      replace p8 := p8.later hb4
      replace sx := sx.later hb4 hb0.size
      replace hb0 := bup hb0 hb4
      clear hb4 HT
      obtain ⟨p9, hbn, -⟩ := new_one w4 #[.int .i64 R.n, .bool R.e, .slice A1 R.m.length c1] 24
      have hg9 : w4.heap.size ≠ g8 := by have := p8.lt; omega
      replace p0 := p0.later hbn
      replace p8 := p8.later hbn
      replace sx := sx.later hbn hb0.size
      replace sx1 := sx1.later hbn hb0.size
      replace hb0 := bup hb0 hbn
      clear hbn
      cases t1 : (E != 0)
      rotate_left
      · go_wp2
        go_ret
        exact ⟨rfl, hb0⟩
      have hE : E = 0 := by simpa using t1
      subst hE
      obtain ⟨hF, hS⟩ := HLAW.out HS.out rfl
      subst hF
      subst hS
      have hsm := HSM.out rfl
      clear HLAW HS HSM t1
      obtain ⟨x0, x1, x2, fx⟩ := octbox p9
      obtain ⟨y0, y1, y2, y3, y4, y5, y6, y7, y8, y9, fy⟩ := edgbox p8
      go_wp2_with fail
      clear x0 x1 x2 fx y0 y1 y2 y3 y4 y5 y6 y7 y8 y9 fy
      generalize w4.alloc (Obj.cells #[.int .i64 R.n, .bool R.e, .slice A1 R.m.length c1] 24) = w5 at *
      generalize w4.heap.size = g9 at *
      have q0 := p0.far (p := ⟨g8, 2, none⟩) hg0 (.int .i64 5)
      have rx := sx.far1 (v0 := .int .i64 5) hg8 p8 (by decide) 2
      have rb := hb0.trans (below1 (i := 2) (v := .int .i64 5) hg8 hb0.size)
      have rx1 := sx1.far1 (v0 := .int .i64 5) hg8 p8 (by decide) 2
      clear p0 p8 p9 sx sx1 hb0 hg0 hg9 hg8
      generalize w5.setCell ⟨g8, 2, none⟩ (.int .i64 5) = w6 at *
      (with_reducible refine (HT2.out c1 (by first | rfl | trivial) A1 w6 rb.size (rx1.rd rb.size)).mono ?_)
      rintro e7 w7 ⟨A2, c2, rfl, sx2, hb7⟩
      replace q0 := q0.later hb7
      replace rx := rx.later hb7 rb.size
      replace rb := bup rb hb7
      clear hb7 HT2 rx1
      obtain ⟨p11, hbn, -⟩ := new_one w7 #[.int .i64 S.n, .bool S.e, .slice A2 S.m.length c2] 24
      replace q0 := q0.later hbn
      replace rx := rx.later hbn rb.size
      replace sx2 := sx2.later hbn rb.size
      replace rb := bup rb hbn
      clear hbn
      obtain ⟨x0, x1, x2, fx⟩ := octbox q0
      go_wp2_with fail
      clear x0 x1 x2 fx
      generalize w7.alloc (Obj.cells #[.int .i64 S.n, .bool S.e, .slice A2 S.m.length c2] 24) = w8 at *
      generalize w7.heap.size = g11 at *
      (with_reducible refine (HN.out (by first | rfl | trivial) w8 (rx.rd rb.size)).mono ?_)
      rintro e9 w9 ⟨A3, c3, rfl, own3, hb9⟩
      replace p11 := p11.later hb9
      replace sx2 := sx2.later hb9 rb.size
      replace rb := bup rb hb9
      clear hb9 HN rx q0
      have hr3 := own3.rd
      clear own3
      obtain ⟨p12, hbn, -⟩ := new_one w9 #[.int .i64 S.n, .bool S.e, .slice A3 S.m.length c3] 24
      replace p11 := p11.later hbn
      replace sx2 := sx2.later hbn rb.size
      replace hr3 := hr3.up hbn
      replace rb := bup rb hbn
      clear hbn
      obtain ⟨x0, x1, x2, fx⟩ := octbox p11
      obtain ⟨y0, y1, y2, fy⟩ := octbox p12
      go_wp2_with fail
      clear x0 x1 x2 fx y0 y1 y2 fy
      have HO := hid (oct_any S S A2 A3 c2 c3 _ (sx2.rd rb.size) hr3 hsm)
      rw [eqO_same] at HO
      (with_reducible refine HO.out.mono ?_)
      rintro e10 w10 ⟨rfl, hb10⟩
      go_wp2
      go_ret
      exact ⟨rfl, bup rb hb10⟩
end
section
open Go.ChangeShapes Go.WideShapes Go.ChangeAt Go.RowKit Go.Joins

theorem Tryz.own : ownKnob Tryz.prog.godebug = none := by kernel_rfl
theorem Tryz.laidOut : laidOutB Tryz.prog = true := by kernel_rfl
theorem cells_i64 : Tryz.prog.cellsOf 2 = 1 := by kernel_rfl
theorem cells_oct : Tryz.prog.cellsOf 24 = 3 := by kernel_rfl
theorem bytes_i64 : Tryz.prog.bytesOf 2 = 8 := by kernel_rfl

section
variable {H : Type} {enc : TypeId × Value → H} {W : World} {base : Nat} {held : Bool}

theorem cell_lt {w : World} {p : Addr} {v : Value} (h : w.cell? p = some v) : p.block < w.heap.size ∧ p.spot = none := by
  unfold World.cell? at h
  split at h
  · rename_i hb
    refine ⟨(Array.getElem?_eq_some_iff.1 hb).1, ?_⟩
    split at h
    · cases h
    · rename_i hs
      simpa using hs
  · cases h

/-- The heart: a slice of int64 that is met in reading. -/
theorem row_ints {spare : Nat → Bool} {fuel : Nat} {cs : List Value} {x : DataW H × List MemPlace} (h : DataW.trod enc Tryz.prog W base spare held fuel 22 cs = some x) :
    ∃ (A : Option Addr) (c : Nat) (m : List Int), cs = [.slice A m.length c] ∧ Rd W W.heap.size A m ∧ ((∀ n ∈ x.1.weights Tryz.prog 22, n ≤ reachBytes) → m.length ≤ 17592186044416) ∧ ∀ i : Nat, gI m i ≤ 9223372036854775807 := by
  rcases open_ints Tryz.underlying22 Tryz.underlying2 cells_i64 h with ⟨rfl, rfl⟩ | ⟨a, len, cap, zs, rfl, _, hl, _, hzl, rfl, hc, hwf⟩
  · exact ⟨none, 0, [], rfl, fun k hk => absurd hk (by simp), fun _ => by simp, fun i => by simp [gI]⟩
  · have hle : len ≤ zs.length := by rw [hzl]; split <;> omega
    have hml : (zs.take len).length = len := by simp; omega
    refine ⟨some a, cap, zs.take len, by rw [hml], fun k hk => ?_, fun hw => ?_, fun i => (range_i64 (zs := zs.take len) (fun n hn => hwf n (List.mem_of_mem_take hn)) i).2⟩
    · rw [hml] at hk
      have h0 := cell_lt (hc 0 (by omega))
      have hk' := hc k (by omega)
      obtain ⟨b, off, sp⟩ := a
      have hsp : sp = none := by simpa [Addr.add] using h0.2
      subst hsp
      have hb : b < W.heap.size := by simpa [Addr.add] using h0.1
      refine ⟨b, off, rfl, hb, ?_⟩
      have e : (⟨b, off, none⟩ : Addr).add k = ⟨b, off + k, none⟩ := by unfold Addr.add; split <;> simp_all
      rw [← e, hk']
      unfold gI
      rw [getD_take_lt zs len _ 0 (by simpa using hk)]
      rfl
    · have := hw (((lits (H := H) IntKind.i64 (zs.take len)).length + (lits (H := H) IntKind.i64 (zs.drop len)).length) * Tryz.prog.bytesOf 2) (by simp [DataW.weights, Tryz.underlying22])
      rw [bytes_i64] at this
      have hr := reachBytes_lt
      simp [lits] at this
      omega

set_option maxRecDepth 100000 in
theorem open_oct {r : Reach} {b0 : Nat} {spare : Nat → Bool} {v : Value} {d : DataW H} {p : List MemPlace} (hv : Value.okWide Tryz.prog W r b0 24 v) (h : DataW.Trod enc Tryz.prog W base spare held 24 v d p) :
    ∃ (A : Option Addr) (c : Nat) (o : O), v = .agg #[.int .i64 o.n, .bool o.e, .slice A o.m.length c] ∧ Rd W W.heap.size A o.m ∧ ((∀ n ∈ d.weights Tryz.prog 24, n ≤ reachBytes) → o.m.length ≤ 17592186044416) := by
  obtain ⟨v0, v1, v2, y0, y1, y2, n, rfl, rfl, rfl, h0, h1, h2⟩ := open_agg3 Tryz.underlying24 (by kernel_rfl) cells_oct hv h
  obtain ⟨k, hk, rfl, _⟩ := DataW.trod_int Tryz.underlying3 h0
  obtain ⟨b, hb, rfl⟩ := DataW.trod_bool Tryz.underlying4 h1
  obtain ⟨A, c, m, he, hr, hw, _⟩ := row_ints h2
  injection hk with hk; subst hk
  injection hb with hb; subst hb
  injection he with he; subst he
  refine ⟨A, c, ⟨k, b, m⟩, rfl, hr, fun hn => hw fun q hq => hn q ?_⟩
  have e := Tryz.underlying24
  simp only [DataW.weights, e, DataW.weightsEach, List.map_cons, List.map_nil, List.mem_append]
  exact .inr (.inr (.inl hq))

/-- The row's end: it answers true, and what came in reads as it did. -/
theorem post_true {f : Func} {s : ChangeSpec} {W' : World} {args : Array Value} {ds : List (DataW H)} {before : List MemPlace} (hW : DataW.Whole enc Tryz.prog f.params.toList s.vars false W args.toList ds [] before)
    (hrt : f.resultTypes = #[4]) (hv : s.vars = []) (hfn : s.fn H (ds ++ []) = { results := [.lit (.bool true)], args := ds })
    (hargs : DataW.TrodAll enc Tryz.prog W' 0 (fun b => decide (b < W.heap.size)) true f.params.toList args.toList ds before) (hb : Below W.heap.size W W') :
    s.post enc Tryz.prog f false true false false W args (.bool true) W' := by
  refine ⟨ds, [], before, [], before, [], hW, ?_, ?_, ?_, World.keptBut_mono (fun p hp => ⟨hp, .inr (.inl hp)⟩) (hb.frame (· ∈ before)), fun h => by cases h⟩
  · rw [hfn, hrt]
    exact trodAll_mk1 (shut_bool Tryz.underlying4 _)
  · rw [hfn]; exact hargs
  · rw [hfn, hv]; rfl
end
end
section
open Go.ChangeShapes Go.WideShapes Go.ChangeAt Go.RowKit Go.Joins

theorem wf_i64 {n : Int} (h : (Lit.int .i64 n).wf = true) : I64 n := range_i64 (zs := [n]) (fun k hk => by simp at hk; subst hk; exact h) 0
theorem wf_i32 {n : Int} (h : (Lit.int .i32 n).wf = true) : -2147483648 ≤ n ∧ n ≤ 2147483647 := by
  simp [Lit.wf, IntKind.min, IntKind.max, IntKind.signed, IntKind.bits] at h
  omega
section
variable {H : Type} {enc : TypeId × Value → H} {W : World} {base : Nat} {held : Bool} {spare : Nat → Bool} {r : Reach} {b0 : Nat} {v : Value} {d : DataW H} {p : List MemPlace}
set_option maxRecDepth 100000 in
theorem open_rg (hv : Value.okWide Tryz.prog W r b0 49 v) (h : DataW.Trod enc Tryz.prog W base spare held 49 v d p) :
    ∃ (x : Rg), v = x.val ∧ I64 x.lo ∧ I64 x.hi ∧ p = [] := by
  obtain ⟨v0, v1, v2, v3, y0, y1, y2, y3, n, rfl, rfl, rfl, h0, h1, h2, h3⟩ := open_agg4 Tryz.underlying49 (by kernel_rfl) (by kernel_rfl) hv h
  obtain ⟨k0, hk0, rfl, w0⟩ := DataW.trod_int Tryz.underlying2 h0
  obtain ⟨k1, hk1, rfl, w1⟩ := DataW.trod_int Tryz.underlying2 h1
  obtain ⟨k2, hk2, rfl⟩ := DataW.trod_bool Tryz.underlying4 h2
  obtain ⟨k3, hk3, rfl⟩ := DataW.trod_bool Tryz.underlying4 h3
  injection hk0 with hk0; subst hk0
  injection hk1 with hk1; subst hk1
  injection hk2 with hk2; subst hk2
  injection hk3 with hk3; subst hk3
  exact ⟨⟨k0, k1, k2, k3⟩, rfl, wf_i64 w0, wf_i64 w1, rfl⟩
end
end
section
open Go.RowKit
attribute [local go_sem ↓] Go.wp_at_zero Go.wp_at_succ

def loR (r : Rg) : Int := if r.hl then r.lo else -9223372036854775808
def hiR (r : Rg) : Int := if r.hh then r.hi else 9223372036854775807
set_option maxHeartbeats 1000000 in
theorem rends_ok (r : Rg) (w : World) : Calls Tryz.prog 105 #[r.val] w fun e w' => e = .returned (.tuple #[.int .i64 (loR r), .int .i64 (hiR r)]) ∧ Below w.heap.size w w' := by
  obtain ⟨lo, hi, hl, hh⟩ := r
  unfold Rg.val loR hiR
  dsimp only
  obtain ⟨p0, hb0, -⟩ := new_one w #[.int .i64 lo, .int .i64 hi, .bool hl, .bool hh] 49
  obtain ⟨x0, x1, x2, x3, fx⟩ := rgbox p0
  cases hl <;> cases hh
  all_goals
    go_enter Tryz.func105, Tryz.ntmps105
    go_wp2
  · refine bodyPost_ret (v := .tuple #[.int .i64 (-9223372036854775808), .int .i64 9223372036854775807]) (by simp [results, Tryz.results105, go_sem]) rfl ⟨by simp, hb0⟩
  · refine bodyPost_ret (v := .tuple #[.int .i64 (-9223372036854775808), .int .i64 hi]) (by simp [results, Tryz.results105, go_sem]) rfl ⟨by simp, hb0⟩
  · refine bodyPost_ret (v := .tuple #[.int .i64 lo, .int .i64 9223372036854775807]) (by simp [results, Tryz.results105, go_sem]) rfl ⟨by simp, hb0⟩
  · refine bodyPost_ret (v := .tuple #[.int .i64 lo, .int .i64 hi]) (by simp [results, Tryz.results105, go_sem]) rfl ⟨by simp, hb0⟩
set_option maxHeartbeats 1000000 in
theorem shas_ok (a b n : Int) (w : World) : Calls Tryz.prog 104 #[.agg #[.int .i64 a, .int .i64 b], .int .i64 n] w fun e w' => e = .returned (.bool (decide (a ≤ n) && decide (n ≤ b))) ∧ Below w.heap.size w w' := by
  obtain ⟨p0, hb0, -⟩ := new_one w #[.int .i64 a, .int .i64 b] 135
  obtain ⟨x0, x1, fx⟩ := opbox p0
  cases t1 : decide (a ≤ n)
  · go_enter Tryz.func104, Tryz.ntmps104
    go_wp2
    go_ret
    exact ⟨rfl, hb0⟩
  · go_enter Tryz.func104, Tryz.ntmps104
    go_wp2
    go_ret
    exact ⟨by simp, hb0⟩
set_option maxHeartbeats 1000000 in
theorem sends_ok (r : Rg) (w : World) : Calls Tryz.prog 99 #[r.val] w fun e w' => e = .returned (.agg #[.int .i64 (loR r), .int .i64 (hiR r)]) ∧ Below w.heap.size w w' := by
  obtain ⟨lo, hi, hl, hh⟩ := r
  unfold Rg.val loR hiR
  dsimp only
  obtain ⟨p0, p1, p2, hb0, -⟩ := new_three w #[.int .i64 lo, .int .i64 hi, .bool hl, .bool hh] #[.int .i64 0, .int .i64 0] #[.int .i64 (-9223372036854775808), .int .i64 9223372036854775807] 49 135 135
  obtain ⟨x0, x1, x2, x3, fx⟩ := rgbox p0
  cases hl <;> cases hh
  all_goals
    go_enter Tryz.func99, Tryz.ntmps99
    go_wp2
  · obtain ⟨-, q1, -, hb9, -⟩ := new_three w #[.int .i64 lo, .int .i64 hi, .bool false, .bool false] #[.int .i64 (-9223372036854775808), .int .i64 9223372036854775807] #[.int .i64 (-9223372036854775808), .int .i64 9223372036854775807] 49 135 135
    obtain ⟨z0, z1, fz⟩ := opbox q1
    refine bodyPost_ret (v := .agg #[.int .i64 (-9223372036854775808), .int .i64 9223372036854775807]) (by simp [results, Tryz.results99, go_sem, z0, z1]) rfl ⟨by simp, hb9⟩
  · obtain ⟨-, q1, -, hb9, -⟩ := new_three w #[.int .i64 lo, .int .i64 hi, .bool false, .bool true] #[.int .i64 (-9223372036854775808), .int .i64 hi] #[.int .i64 (-9223372036854775808), .int .i64 hi] 49 135 135
    obtain ⟨z0, z1, fz⟩ := opbox q1
    refine bodyPost_ret (v := .agg #[.int .i64 (-9223372036854775808), .int .i64 hi]) (by simp [results, Tryz.results99, go_sem, z0, z1]) rfl ⟨by simp, hb9⟩
  · obtain ⟨-, q1, -, hb9, -⟩ := new_three w #[.int .i64 lo, .int .i64 hi, .bool true, .bool false] #[.int .i64 lo, .int .i64 9223372036854775807] #[.int .i64 lo, .int .i64 9223372036854775807] 49 135 135
    obtain ⟨z0, z1, fz⟩ := opbox q1
    refine bodyPost_ret (v := .agg #[.int .i64 lo, .int .i64 9223372036854775807]) (by simp [results, Tryz.results99, go_sem, z0, z1]) rfl ⟨by simp, hb9⟩
  · obtain ⟨-, q1, -, hb9, -⟩ := new_three w #[.int .i64 lo, .int .i64 hi, .bool true, .bool true] #[.int .i64 lo, .int .i64 hi] #[.int .i64 lo, .int .i64 hi] 49 135 135
    obtain ⟨z0, z1, fz⟩ := opbox q1
    refine bodyPost_ret (v := .agg #[.int .i64 lo, .int .i64 hi]) (by simp [results, Tryz.results99, go_sem, z0, z1]) rfl ⟨by simp, hb9⟩
end
end Go.Proofs.YtnmpgijiimglcaaGreat
