/-
  gnomonref12.Cells: what it answers.
-/
import Derived.Test.YtanbplidigokgaaThinLaw
import Derived.Test.YtanbplidigokgaaROpen
namespace Go.Proofs.Ytanbplidigokgaa
open Go.RowKit
attribute [local go_sem ↓] Go.wp_at_zero Go.wp_at_succ

theorem cell_info : (Try.prog.info? 104).map (fun i => (i.zero, i.size, i.bytes)) = some (some (.agg #[.int .i64 0, .int .i64 0, .int .i64 0]), 3, 24) := by kernel_rfl
/-- A cell as gnomonref12.Cells tells it. -/
def c3 (N : Nat) (m : List Int) (x : Cel N) : List Value := [.int .i64 (x.1.1 : Int), .int .i64 (x.1.2 : Int), .int .i64 (gI m ((x.1.1 * N + x.1.2 : Nat) : Int))]
def OwnC (w : World) (base N : Nat) (m : List Int) (A : Option Addr) (cap : Nat) (xs : List (Cel N)) : Prop := w.ownsRow base 104 3 (.slice A xs.length cap) xs.length (xs.flatMap (c3 N m))
theorem fm3_get {α : Type} (f : α → List Value) (hf : ∀ x, (f x).length = 3) : ∀ (xs : List α) (k r : Nat) (h : k < xs.length), r < 3 → (xs.flatMap f)[k * 3 + r]? = (f xs[k])[r]?
  | [], k, r, h, _ => absurd h (by simp)
  | x :: xs, 0, r, _, hr => by
    rw [List.flatMap_cons, List.getElem?_append_left (by rw [hf]; omega)]; simp
  | x :: xs, k + 1, r, h, hr => by
    rw [List.flatMap_cons, List.getElem?_append_right (by rw [hf]; omega), hf, show (k + 1) * 3 + r - 3 = k * 3 + r by omega]
    exact fm3_get f hf xs k r (by simpa using h) hr
theorem fm3_len {α : Type} (f : α → List Value) (hf : ∀ x, (f x).length = 3) (xs : List α) : (xs.flatMap f).length = xs.length * 3 := by
  induction xs with
  | nil => rfl
  | cons x xs ih => rw [List.flatMap_cons, List.length_append, ih, hf, List.length_cons]; omega
section
variable {w w' : World} {base cap N : Nat} {m : List Int} {A : Option Addr} {xs : List (Cel N)}
theorem OwnC.form (h : OwnC w base N m A cap xs) : (A = none ∧ xs = [] ∧ cap = 0) ∨ ∃ g, A = some ⟨g, 0, none⟩ ∧ base ≤ g ∧ g < w.heap.size := by
  rcases h.2 with ⟨h1, h0⟩ | ⟨g, cap', cur, h1, hb, hg, _⟩
  · injection h1 with h1 _ h3
    exact .inl ⟨h1, List.eq_nil_of_length_eq_zero h0, h3⟩
  · injection h1 with h1
    exact .inr ⟨g, h1, hb, (Array.getElem?_eq_some_iff.1 hg).1⟩
theorem OwnC.below (h : OwnC w base N m A cap xs) (hb : Below w.heap.size w w') : OwnC w' base N m A cap xs :=
  World.ownsRow.kept h (grown_of_below hb none) (by cases h' : (Value.slice A xs.length cap).ownBlock <;> simp)
theorem OwnC.nil (w : World) (base N : Nat) (m : List Int) : OwnC w base N m none 0 [] := World.ownsRow_nil _ _ _ _
theorem OwnC.less {b2 : Nat} (h : OwnC w base N m A cap xs) (hb : b2 ≤ base) : OwnC w b2 N m A cap xs := by
  refine ⟨h.1, ?_⟩
  rcases h.2 with h1 | ⟨g, cap', cur, h1, h2, h3⟩
  · exact .inl h1
  · exact .inr ⟨g, cap', cur, h1, by omega, h3⟩
theorem OwnC.at_ (h : OwnC w base N m A cap xs) {k : Nat} (hk : k < xs.length) : ∃ g, A = some ⟨g, 0, none⟩ ∧ base ≤ g ∧ g < w.heap.size ∧ w.cell? ⟨g, k * 3, none⟩ = some (.int .i64 (xs[k].1.1 : Int)) ∧ w.cell? ⟨g, k * 3 + 1, none⟩ = some (.int .i64 (xs[k].1.2 : Int)) := by
  rcases h.form with ⟨_, rfl, _⟩ | ⟨g, rfl, h1, h2⟩
  · simp at hk
  · have e := fun r (hr : r < 3) => (World.ownsRow.cellAt (w := w) (xs := xs.flatMap (c3 N m)) h (k * 3 + r) (by omega)).trans (fm3_get (c3 N m) (fun _ => rfl) xs k r hk hr)
    exact ⟨g, rfl, h1, h2, e 0 (by omega), e 1 (by omega)⟩
end
theorem run_append_cell (w : World) (base N : Nat) (m : List Int) (ty : TypeId) (A : Option Addr) (c : Nat) (xs : List (Cel N)) (x : Cel N) (h : OwnC w base N m A c xs) (g : Nat)
    (hk : Blk w g 104 (c3 N m x).toArray) (hl : xs.length + 1 ≤ 1000000) (hbase : base ≤ w.heap.size) :
    ∃ A' c' w', (Builtin.append_ #[80, 80] ty #[.slice A xs.length c, .slice (some ⟨g, 0, none⟩) 1 1]).run Try.prog w = .ok (.slice A' (xs ++ [x]).length c') w' ∧ OwnC w' base N m A' c' (xs ++ [x]) ∧ w.grownBy w' (Value.slice A xs.length c).ownBlock := by
  obtain ⟨i0, hi, hz0, hz1, hz2⟩ := info_parts cell_info
  obtain ⟨v', w', hrun, h2, h3, _, h5⟩ := run_append_own_at (P := Try.prog) w base 80 ty _ i0 _ 3 24 Try.underlying80 hi hz0 hz1 hz2 rfl (by omega) _ xs.length (xs.flatMap (c3 N m)) h ⟨g, 0, none⟩ 1 1 (c3 N m x) rfl
    (fun j u hu => by rw [add_mk, Nat.zero_add, hk.cell j]; simpa using hu) (fun u hu => by simp [c3] at hu; rcases hu with rfl | rfl | rfl <;> rfl) (by unfold maxLen; omega) (by omega) hbase
  have hl2 : (xs ++ [x]).length = xs.length + 1 := by simp
  have hf2 : (xs ++ [x]).flatMap (c3 N m) = xs.flatMap (c3 N m) ++ c3 N m x := by simp
  rcases h2.2 with ⟨_, h0⟩ | ⟨g', cap', cur, rfl, h4⟩
  · omega
  · exact ⟨_, cap', w', by rw [hl2]; exact hrun, by unfold OwnC; rw [hf2, hl2]; exact h2, h3⟩
theorem wpList_append_cell {ops : Array Oper} {rest : List Oper} {o : Oper} {a : Act} {Q : Exit → Act → World → Prop} {w : World} (s x : Operand)
    (ho : o.op = .call { callee := .builtin .append, args := #[s, x], argTypes := #[80, 80] }) (hgd : o.guard = none)
    (base N : Nat) (m : List Int) (A0 : Option Addr) (c0 : Nat) (xs : List (Cel N)) (y : Cel N) (hs : a.eval s = .slice A0 xs.length c0) (hown : OwnC w base N m A0 c0 xs) (g : Nat)
    (hx : a.eval x = .slice (some ⟨g, 0, none⟩) 1 1) (hr : Blk w g 104 (c3 N m y).toArray) (hl : xs.length + 1 ≤ 1000000) (hbase : base ≤ w.heap.size)
    (h : ∀ A' cap' w', OwnC w' base N m A' cap' (xs ++ [y]) → w.grownBy w' (Value.slice A0 xs.length c0).ownBlock → wpList Try.prog ops Q rest (a.put o.dst (.slice A' (xs ++ [y]).length cap')) w') :
    wpList Try.prog ops Q (o :: rest) a w :=
  wpList_plain hgd fun K hK => by
    obtain ⟨A', c', w', hrun, h2, h3⟩ := run_append_cell w base N m o.type A0 c0 xs y hown g hr hl hbase
    unfold Oper.wp execOp
    simp only [ho, resolve, invoke, builtin, Sem.run_bind, Sem.run_pure, Result.andThen_ok, List.map_toArray, List.map_cons, List.map_nil, hs, hx, hrun]
    exact hK _ _ (h A' c' w' h2 h3)
theorem keepC_eq {N : Nat} {m : List Int} {k l : Nat} {b1 b2 b3 : Bool} (h1 : ((k : Int) != (l : Int)) = b1) (h2 : firstB k l = b2) (h3 : (gI m ((k * N + l : Nat) : Int) != 9223372036854775807) = b3) : keepC N m k l = (b1 && (b2 && b3)) := by
  unfold keepC
  subst h1; subst h2; subst h3
  have e1 : decide (k ≠ l) = ((k : Int) != (l : Int)) := by rw [Bool.eq_iff_iff]; simp only [decide_eq_true_eq, bne_iff_ne]; omega
  have e3 : decide (gI m ((k * N + l : Nat) : Int) ≠ 9223372036854775807) = (gI m ((k * N + l : Nat) : Int) != 9223372036854775807) := by rw [Bool.eq_iff_iff]; simp
  rw [e1, e3]
theorem rowC_no {N : Nat} {m : List Int} {k l : Nat} (h : keepC N m k l = false) : rowC N m k (l + 1) = rowC N m k l := by
  rw [rowC, h]; simp

set_option maxRecDepth 8000 in
set_option maxHeartbeats 4000000 in
theorem rcells_ok (n : Int) (m : List Int) (N : Nat) (A : Option Addr) (c : Nat) (w : World) (hx : Rd w w.heap.size A m) (hm : m.length ≤ 17592186044416) (hk : check ⟨n, false, m⟩ = 0) (hN : (N : Int) = 2 * n) :
    Calls Try.prog 54 #[.agg #[.int .i64 n, .bool false, .slice A m.length c]] w fun e w' => ∃ A1 c1, e = .returned (.slice A1 (matC N m N).length c1) ∧ OwnC w' w.heap.size N m A1 c1 (matC N m N) ∧ Below w.heap.size w w' := by
  obtain ⟨n0, n1, -, -⟩ := check_ok hk
  dsimp only at n0 n1
  have hn0 : 0 ≤ 2 * n := by omega
  have hn1 : 2 * n ≤ 128 := by omega
  have hnN : N ≤ 128 := by omega
  have HK := hid hk
  have HN := hid hN
  have HL := hid (cells_of hN hk).len
  have HC := hid (rcheck_any ⟨n, false, m⟩ A c _ (hx.up (new1 w (Obj.cells #[.int .i64 n, .bool false, .slice A m.length c] 24))) (by dsimp only; omega))
  dsimp only at HC
  clear hk hN
  go_enter Try.func54, Try.ntmps54
  go_wp2_with fail
  refine HC.out.mono ?_
  clear HC
  rw [HK.out]
  have hb0 := new1 w (Obj.cells #[.int .i64 n, .bool false, .slice A m.length c] 24)
  have p0 := Blk.new w 24 #[.int .i64 n, .bool false, .slice A m.length c]
  rintro e1 w1 ⟨rfl, hb1⟩
  replace p0 := p0.later hb1
  replace hx := hx.up (bup hb0 hb1)
  replace hb0 := bup hb0 hb1
  clear hb1
  have hp1 := p0.lt
  obtain ⟨x0, x1, x2, fx⟩ := octbox p0
  go_wp2
  clear x0 x1 x2 fx
  go_loopw [3, 4] (fun s i wr => ∃ (k : Nat) (A1 : Option Addr) (c1 : Nat), k ≤ N ∧ i = .int .i64 k ∧ s = .slice A1 (matC N m k).length c1 ∧ OwnC wr w1.heap.size N m A1 c1 (matC N m k) ∧ Below w1.heap.size w1 wr) (fun _ i _ => N - (intOf i).toNat)
  case atStart => exact ⟨0, none, 0, by omega, rfl, rfl, OwnC.nil _ _ _ _, Below.refl _ _⟩
  case round =>
    obtain ⟨k, A1, c1, hkN, rfl, rfl, own1, hbr⟩ := hrel
    have HM := hid (matC_len N m k)
    obtain ⟨x0, x1, x2, fx⟩ := octbox (p0.later hbr)
    by_cases hlt : k < N
    · have hltn : (k : Int) < 2 * n := by have := HN.out; omega
      have HMS : Hid (matC N m (k + 1) = matC N m k ++ rowC N m k N) := hid rfl
      generalize matC N m k = pre at *
      go_wp2
      clear x0 x1 x2 fx
      go_loopw [3, 5] (fun s j wq => ∃ (l : Nat) (A2 : Option Addr) (c2 : Nat), l ≤ N ∧ j = .int .i64 l ∧ s = .slice A2 (pre ++ rowC N m k l).length c2 ∧ OwnC wq w1.heap.size N m A2 c2 (pre ++ rowC N m k l) ∧ Below w1.heap.size w1 wq) (fun _ j _ => N - (intOf j).toNat)
      case atStart => exact ⟨0, A1, c1, by omega, rfl, by simp [rowC], by simpa [rowC] using own1, hbr⟩
      case round =>
        obtain ⟨l, A2, c2, hlN, rfl, rfl, own2, hbq⟩ := hrel
        have HR := hid (rowC_len N m k l)
        obtain ⟨x0, x1, x2, fx⟩ := octbox (p0.later hbq)
        by_cases hlt2 : l < N
        · have hltn2 : (l : Int) < 2 * n := by have := HN.out; omega
          obtain ⟨a1, a2, a3, a4, a5, a6⟩ := idxr_ok HN.out hlt hlt2 hnN
          rw [← HL.out] at a4 a6
          rw [← Int.mul_assoc] at a1 a2 a3 a5 a6
          obtain ⟨g, off, rfl, hgB, hcell⟩ := hx.up hbq (k * N + l) a4
          have HPL : Hid ((pre ++ rowC N m k l).length + 1 ≤ 1000000) := hid (by
            have h1 := HM.out
            have h2 := HR.out
            have h3 : k * N ≤ 128 * 128 := Nat.mul_le_mul (by omega) hnN
            rw [List.length_append]; omega)
          cases t1 : ((k : Int) != (l : Int))
          · have hrow := rowC_no (N := N) (m := m) (k := k) (l := l) (by rw [keepC_eq t1 rfl rfl]; rfl)
            have HRW := hid hrow
            clear hrow
            generalize hpr : pre ++ rowC N m k l = pr at *
            go_wp2
            go_roundw
            case rel => exact ⟨l + 1, A2, c2, by omega, by go_num, by rw [HRW.out, hpr], by rw [HRW.out, hpr]; exact own2, hbq⟩
            case measure => simp [intOf]; omega
          · cases t2 : firstB k l
            · have hrow := rowC_no (N := N) (m := m) (k := k) (l := l) (by rw [keepC_eq t1 t2 rfl]; rfl)
              have HRW := hid hrow
              clear hrow
              generalize hpr : pre ++ rowC N m k l = pr at *
              go_wp2_with fail
              refine (first_any k l _ false (by omega) (by omega) t2).mono ?_
              rintro e3 w3 ⟨rfl, rfl⟩
              go_wp2
              go_roundw
              case rel => exact ⟨l + 1, A2, c2, by omega, by go_num, by rw [HRW.out, hpr], by rw [HRW.out, hpr]; exact own2, hbq⟩
              case measure => simp [intOf]; omega
            · have HKC := hid (keepC_eq (N := N) (m := m) t1 t2 rfl)
              have hkl : k ≠ l := by have := bne_iff_ne.1 t1; omega
              have HC3 : Hid ((c3 N m ⟨(k, l), hlt, hlt2, hkl⟩) = [.int .i64 (k : Int), .int .i64 (l : Int), .int .i64 (gI m ((k * N + l : Nat) : Int))]) := hid rfl
              have HRS : Hid (rowC N m k (l + 1) = rowC N m k l ++ (if keepC N m k l then [⟨(k, l), hlt, hlt2, hkl⟩] else [])) := hid (by rw [rowC, celOf, dif_pos ⟨hlt, hlt2, hkl⟩])
              generalize (⟨(k, l), hlt, hlt2, hkl⟩ : Cel N) = y at *
              generalize gI m ((k * N + l : Nat) : Int) = v at *
              cases t3 : (v != 9223372036854775807)
              · rw [t3] at HKC
                rw [HKC.out] at HRS
                have HRW : Hid (rowC N m k (l + 1) = rowC N m k l) := hid (by rw [HRS.out]; simp)
                generalize hpr : pre ++ rowC N m k l = pr at *
                go_wp2_with fail
                refine (first_any k l _ true (by omega) (by omega) t2).mono ?_
                rintro e3 w3 ⟨rfl, rfl⟩
                go_wp2
                go_roundw
                case rel => exact ⟨l + 1, A2, c2, by omega, by go_num, by rw [HRW.out, hpr], by rw [HRW.out, hpr]; exact own2, hbq⟩
                case measure => simp [intOf]; omega
              · rw [t3] at HKC
                rw [HKC.out] at HRS
                have HRW : Hid (pre ++ rowC N m k (l + 1) = (pre ++ rowC N m k l) ++ [y]) := hid (by rw [HRS.out]; simp)
                clear HRS HKC
                generalize hpr : pre ++ rowC N m k l = pr at *
                go_wp2_with fail
                refine (first_any k l _ true (by omega) (by omega) t2).mono ?_
                rintro e3 w3 ⟨rfl, rfl⟩
                have hn9 := new1 wr (.cells #[.int .i64 (k : Int), .int .i64 (l : Int), .int .i64 v] 104)
                have k9 := Blk.new wr 104 #[.int .i64 (k : Int), .int .i64 (l : Int), .int .i64 v]
                have hsz := hbq.size
                go_wp2_with (at_builtin; go_loud (refine wpList_append_cell _ _ rfl rfl w1.heap.size N m _ _ pr y rfl (own2.below hn9) wr.heap.size rfl (by rw [HC3.out]; exact k9) HPL.out (by simp; omega) ?_); intro A3 c3' w3 own3 hg3; have hb3 := below_grown (B := w1.heap.size) hg3 (by rcases own2.form with ⟨e, _⟩ | ⟨g', e, h', _⟩ <;> simp [e, Value.ownBlock] <;> omega) (by simp; omega); clear hg3)
                go_roundw
                case rel => exact ⟨l + 1, A3, c3', by omega, by go_num, by rw [HRW.out]; simp, by rw [HRW.out]; exact own3, (hbq.trans (hn9.mono (by omega))).trans hb3⟩
                case measure => simp [intOf]; omega
        · obtain rfl : l = N := by omega
          have hge : ¬ ((l : Int) < 2 * n) := by have := HN.out; omega
          rw [← HMS.out] at own2
          rw [← HMS.out]
          generalize hpp : matC l m (k + 1) = pr at *
          go_wp2
          go_roundw
          case rel => exact ⟨k + 1, A2, c2, by omega, by go_num, by rw [hpp], by rw [hpp]; exact own2, hbq⟩
          case measure => simp [intOf]; omega
    · obtain rfl : k = N := by omega
      have hge : ¬ ((k : Int) < 2 * n) := by have := HN.out; omega
      generalize hpp : matC k m k = pr at *
      go_wp2
      go_ret
      exact ⟨A1, c1, rfl, own1.less hb0.size, bup hb0 hbr⟩
end Go.Proofs.Ytanbplidigokgaa
