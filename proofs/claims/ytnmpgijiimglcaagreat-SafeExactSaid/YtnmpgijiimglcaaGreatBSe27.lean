import Derived.Test.YtnmpgijiimglcaaGreatBSe26
import Derived.Test.YtnmpgijiimglcaaGreatBSe15
import Derived.Test.YtnmpgijiimglcaaGreatBSe11
import Derived.Test.YtnmpgijiimglcaaGreatBSe24
namespace Go.Proofs.YtnmpgijiimglcaaGreat
open Go.RowKit
set_option maxRecDepth 100000
set_option maxHeartbeats 8000000
section
attribute [local go_sem ↓] Go.wp_at_zero Go.wp_at_succ
theorem zju (n : Int) (o : O) (ok : OkO n o) (i j : Nat) (hi_ : (i : Int) < 2 * n) (hj_ : (j : Int) < 2 * n) (lo hi : Int) (ilo : I64 lo) (A : Option Addr) (cap : Nat) (w : World) (B : Nat) (hB : B ≤ w.heap.size) (sx : Sx w B A o.m) (hm : o.m.length ≤ 17592186044416) :
  Calls Tryz.prog 237 #[.agg #[o.n, o.e, .slice A o.m.length cap], (i : Int), (j : Int), .agg #[lo, hi, false, false]] w (zar w B (pairO o i j ⟨lo, hi, false, false⟩)) := by
 have b8 := hid (fun W => (zbl lo ilo W).mono (R' := fun e w' => e = .returned (.int .i64 (negB lo)) ∧ Below W.heap.size W w') fun _ _ ⟨he, hw⟩ => ⟨he, hw ▸ Below.refl _ _⟩)
 clear ilo
 have lenb1 := hm
 have ok1 := ok
 have HR : Hid (pairO o i j ⟨lo, hi, false, false⟩ = o) := hid rfl
 clear lenb1 ok1 ok hm hi_ hj_
 generalize pairO o i j ⟨lo, hi, false, false⟩ = R at *
 generalize negB lo = nl at *
 have c7 := sx
 obtain ⟨p4, p7, p8, a1, b9⟩ := zaj w #[o.n, o.e, .slice A o.m.length cap] #[lo, hi, false, false] #[.int .i64 0, false, .slice none 0 0] 24 49 24
 replace sx := sx.later a1 hB
 clear b9
 go_enter Tryz.func237, Tryz.ntmps237
 have a5 := zaa p4
 have a9 := zag p7
 have b2 := zaa p8
 go_wp2
 clear a5 a9 b2
 clear p4 p7 p8 sx a1
 obtain ⟨-, -, q9, b7, -⟩ := zaj w #[o.n, o.e, .slice A o.m.length cap] #[lo, hi, false, false] #[o.n, o.e, .slice A o.m.length cap] 24 49 24
 have c0 := c7.later b7 hB
 obtain ⟨z0, z1, z2, fz⟩ := zaa q9
 refine bodyPost_ret (v := .agg #[o.n, o.e, .slice A o.m.length cap]) (by simp [results, Tryz.results237, go_sem, z0, z1, z2]) rfl ?_
 rw [HR.out]
 exact ⟨_, _, rfl, c0, b7⟩
theorem zja (n : Int) (o : O) (ok : OkO n o) (i j : Nat) (hi_ : (i : Int) < 2 * n) (hj_ : (j : Int) < 2 * n) (lo hi : Int) (ilo : I64 lo) (A : Option Addr) (cap : Nat) (w : World) (B : Nat) (hB : B ≤ w.heap.size) (sx : Sx w B A o.m) (hm : o.m.length ≤ 17592186044416) :
  Calls Tryz.prog 237 #[.agg #[o.n, o.e, .slice A o.m.length cap], (i : Int), (j : Int), .agg #[lo, hi, false, true]] w (zar w B (pairO o i j ⟨lo, hi, false, true⟩)) := by
 have b8 := hid (fun W => (zbl lo ilo W).mono (R' := fun e w' => e = .returned (.int .i64 (negB lo)) ∧ Below W.heap.size W w') fun _ _ ⟨he, hw⟩ => ⟨he, hw ▸ Below.refl _ _⟩)
 clear ilo
 have c6 := hid (fun W (hW : B ≤ W.heap.size) (h : Sx W B A o.m) => (zaN n o ok i j hi_ hj_ hi A cap W (h.rd hW) hm).mono (R' := zar W B (withO o i j hi)) fun _ _ q => q.sx hW)
 have lenb1 : (withO o i j hi).m.length ≤ 17592186044416 := Nat.le_trans (zbX _ _ _ _) hm
 have ok1 : OkO n (withO o i j hi) := ok.with_ hi_ hj_ _
 have HR : Hid (pairO o i j ⟨lo, hi, false, true⟩ = withO o i j hi) := hid rfl
 clear lenb1 ok1 ok hm hi_ hj_
 generalize pairO o i j ⟨lo, hi, false, true⟩ = R at *
 generalize withO o i j hi = r1 at *
 generalize negB lo = nl at *
 have c7 := sx
 obtain ⟨p4, p7, p8, a1, b9⟩ := zaj w #[o.n, o.e, .slice A o.m.length cap] #[lo, hi, false, true] #[.int .i64 0, false, .slice none 0 0] 24 49 24
 replace sx := sx.later a1 hB
 clear b9
 go_enter Tryz.func237, Tryz.ntmps237
 have a5 := zaa p4
 have a9 := zag p7
 go_wp2_with fail
 clear a5 a9
 generalize ((w.alloc (Obj.cells #[o.n, o.e, .slice A o.m.length cap] 24)).alloc (Obj.cells #[lo, hi, false, true] 49)).alloc (Obj.cells #[.int .i64 0, false, .slice none 0 0] 24) = w1 at *
 (with_reducible refine (c6.out w1 (Nat.le_trans hB a1.size) sx).mono ?_)
 rintro c4 w2 ⟨A1, c1, rfl, b6, a0⟩
 clear sx c6
 replace p4 := p4.later a0
 replace p7 := p7.later a0
 replace p8 := p8.later a0
 replace a1 := bup a1 a0
 clear a0
 have a5 := zaa p4
 have a9 := zag p7
 have b2 := zaa p8
 go_wp2
 clear a5 a9 b2
 replace b6 := b6.far3 (g := w.heap.size) (v0 := .int .i64 r1.n) (v1 := .bool r1.e) (v2 := .slice A1 r1.m.length c1) (by omega) p4 (by decide)
 replace p7 := p7.far3 (g := w.heap.size) (v0 := .int .i64 r1.n) (v1 := .bool r1.e) (v2 := .slice A1 r1.m.length c1) (by omega)
 replace p8 := p8.far3 (g := w.heap.size) (v0 := .int .i64 r1.n) (v1 := .bool r1.e) (v2 := .slice A1 r1.m.length c1) (by omega)
 replace p4 := p4.set3 (v0 := .int .i64 r1.n) (v1 := .bool r1.e) (v2 := .slice A1 r1.m.length c1)
 replace a1 := a1.trans (zah (W := w2) (g := w.heap.size) (v0 := .int .i64 r1.n) (v1 := .bool r1.e) (v2 := .slice A1 r1.m.length c1) (by omega) a1.size)
 generalize ((w2.setCell ⟨w.heap.size, 0, none⟩ (.int .i64 r1.n)).setCell ⟨w.heap.size, 1, none⟩ (.bool r1.e)).setCell ⟨w.heap.size, 2, none⟩ (.slice A1 r1.m.length c1) = w3 at *
 have q9 := p8.set3 (v0 := .int .i64 r1.n) (v1 := .bool r1.e) (v2 := .slice A1 r1.m.length c1)
 have b7 := a1.trans (zah (W := w3) (g := w.heap.size + 1 + 1) (v0 := .int .i64 r1.n) (v1 := .bool r1.e) (v2 := .slice A1 r1.m.length c1) (by omega) a1.size)
 have c0 := b6.far3 (g := w.heap.size + 1 + 1) (v0 := .int .i64 r1.n) (v1 := .bool r1.e) (v2 := .slice A1 r1.m.length c1) (by omega) p8 (by decide)
 obtain ⟨z0, z1, z2, fz⟩ := zaa q9
 refine bodyPost_ret (v := .agg #[r1.n, r1.e, .slice A1 r1.m.length c1]) (by simp [results, Tryz.results237, go_sem, z0, z1, z2]) rfl ?_
 rw [HR.out]
 exact ⟨_, _, rfl, c0, b7⟩
theorem ziS (n : Int) (o : O) (ok : OkO n o) (i j : Nat) (hi_ : (i : Int) < 2 * n) (hj_ : (j : Int) < 2 * n) (lo hi : Int) (ilo : I64 lo) (A : Option Addr) (cap : Nat) (w : World) (B : Nat) (hB : B ≤ w.heap.size) (sx : Sx w B A o.m) (hm : o.m.length ≤ 17592186044416) :
  Calls Tryz.prog 237 #[.agg #[o.n, o.e, .slice A o.m.length cap], (i : Int), (j : Int), .agg #[lo, hi, true, false]] w (zar w B (pairO o i j ⟨lo, hi, true, false⟩)) := by
 have b8 := hid (fun W => (zbl lo ilo W).mono (R' := fun e w' => e = .returned (.int .i64 (negB lo)) ∧ Below W.heap.size W w') fun _ _ ⟨he, hw⟩ => ⟨he, hw ▸ Below.refl _ _⟩)
 clear ilo
 have lenb1 := hm
 have ok1 := ok
 have c5 := hid (fun A1 c1 W (hW : B ≤ W.heap.size) (h : Sx W B A1 (o).m) => (zaN n (o) ok1 j i hj_ hi_ (negB lo) A1 c1 W (h.rd hW) lenb1).mono (R' := zar W B (withO (o) j i (negB lo))) fun _ _ q => q.sx hW)
 have HR : Hid (pairO o i j ⟨lo, hi, true, false⟩ = withO (o) j i (negB lo)) := hid rfl
 clear lenb1 ok1 ok hm hi_ hj_
 generalize pairO o i j ⟨lo, hi, true, false⟩ = R at *
 generalize withO (o) j i (negB lo) = r2 at *
 generalize negB lo = nl at *
 have c7 := sx
 obtain ⟨p4, p7, p8, a1, b9⟩ := zaj w #[o.n, o.e, .slice A o.m.length cap] #[lo, hi, true, false] #[.int .i64 0, false, .slice none 0 0] 24 49 24
 replace sx := sx.later a1 hB
 clear b9
 go_enter Tryz.func237, Tryz.ntmps237
 have a5 := zaa p4
 have a9 := zag p7
 go_upto_region 4 with fail
 clear a5 a9
 generalize ((w.alloc (Obj.cells #[o.n, o.e, .slice A o.m.length cap] 24)).alloc (Obj.cells #[lo, hi, true, false] 49)).alloc (Obj.cells #[.int .i64 0, false, .slice none 0 0] 24) = w1 at *
 have f0 := zab (show w1.cell? ⟨w.heap.size, 0, none⟩ = some (.int .i64 o.n) from p4.cell 0)
 have f1 := zab (show w1.cell? ⟨w.heap.size, 1, none⟩ = some (.bool o.e) from p4.cell 1)
 have f2 := zab (show w1.cell? ⟨w.heap.size, 2, none⟩ = some (.slice A o.m.length cap) from p4.cell 2)
 have f3 := zab (show w1.cell? ⟨w.heap.size + 1, 0, none⟩ = some (.int .i64 lo) from p7.cell 0)
 refine zac 6 [Sp.val (.agg #[o.n, o.e, .slice A o.m.length cap]), Sp.val (.int .i64 (j : Int)), Sp.val (.int .i64 (i : Int)), Sp.val (.pointer (some ⟨w.heap.size + 1, 0, none⟩)), Sp.val (.int .i64 lo), Sp.val (.int .i64 nl)] (by kernel_rfl) (by kernel_rfl) ?_
 iterate 5 (refine fe_t (fun _ _ => ?_))
 refine zaf.callFV (by rfl) (fun W hW hf => ⟨206, #[lo], by go_simp, b8.out W⟩) (fun _ _ => ?_)
 refine fe_p ?_
 refine zaf.tail (fun W hW hf hd2 => ?_)
 replace hW : Below w1.heap.size w1 W := Ext.trans (Below.refl _ _).drew hW
 clear hf hd2 b8 f0 f1 f2 f3
 replace p4 := p4.later hW
 replace p7 := p7.later hW
 replace p8 := p8.later hW
 replace sx := sx.later hW (Nat.le_trans hB a1.size)
 replace a1 := bup a1 hW
 clear hW
 go_wp2_with fail
 (with_reducible refine (c5.out A cap W (Nat.le_trans hB a1.size) sx).mono ?_)
 rintro c4 w2 ⟨A2, c2, rfl, c3, a0⟩
 clear sx c5
 replace p4 := p4.later a0
 replace p7 := p7.later a0
 replace p8 := p8.later a0
 replace a1 := bup a1 a0
 clear a0
 have a5 := zaa p4
 have b2 := zaa p8
 go_wp2
 clear a5 b2
 replace c3 := c3.far3 (g := w.heap.size) (v0 := .int .i64 r2.n) (v1 := .bool r2.e) (v2 := .slice A2 r2.m.length c2) (by omega) p4 (by decide)
 replace p7 := p7.far3 (g := w.heap.size) (v0 := .int .i64 r2.n) (v1 := .bool r2.e) (v2 := .slice A2 r2.m.length c2) (by omega)
 replace p8 := p8.far3 (g := w.heap.size) (v0 := .int .i64 r2.n) (v1 := .bool r2.e) (v2 := .slice A2 r2.m.length c2) (by omega)
 replace p4 := p4.set3 (v0 := .int .i64 r2.n) (v1 := .bool r2.e) (v2 := .slice A2 r2.m.length c2)
 replace a1 := a1.trans (zah (W := w2) (g := w.heap.size) (v0 := .int .i64 r2.n) (v1 := .bool r2.e) (v2 := .slice A2 r2.m.length c2) (by omega) a1.size)
 generalize ((w2.setCell ⟨w.heap.size, 0, none⟩ (.int .i64 r2.n)).setCell ⟨w.heap.size, 1, none⟩ (.bool r2.e)).setCell ⟨w.heap.size, 2, none⟩ (.slice A2 r2.m.length c2) = w3 at *
 have q9 := p8.set3 (v0 := .int .i64 r2.n) (v1 := .bool r2.e) (v2 := .slice A2 r2.m.length c2)
 have b7 := a1.trans (zah (W := w3) (g := w.heap.size + 1 + 1) (v0 := .int .i64 r2.n) (v1 := .bool r2.e) (v2 := .slice A2 r2.m.length c2) (by omega) a1.size)
 have c0 := c3.far3 (g := w.heap.size + 1 + 1) (v0 := .int .i64 r2.n) (v1 := .bool r2.e) (v2 := .slice A2 r2.m.length c2) (by omega) p8 (by decide)
 obtain ⟨z0, z1, z2, fz⟩ := zaa q9
 refine bodyPost_ret (v := .agg #[r2.n, r2.e, .slice A2 r2.m.length c2]) (by simp [results, Tryz.results237, go_sem, z0, z1, z2]) rfl ?_
 rw [HR.out]
 exact ⟨_, _, rfl, c0, b7⟩
theorem zjn (n : Int) (o : O) (ok : OkO n o) (i j : Nat) (hi_ : (i : Int) < 2 * n) (hj_ : (j : Int) < 2 * n) (lo hi : Int) (ilo : I64 lo) (A : Option Addr) (cap : Nat) (w : World) (B : Nat) (hB : B ≤ w.heap.size) (sx : Sx w B A o.m) (hm : o.m.length ≤ 17592186044416) :
  Calls Tryz.prog 237 #[.agg #[o.n, o.e, .slice A o.m.length cap], (i : Int), (j : Int), .agg #[lo, hi, true, true]] w (zar w B (pairO o i j ⟨lo, hi, true, true⟩)) := by
 have b8 := hid (fun W => (zbl lo ilo W).mono (R' := fun e w' => e = .returned (.int .i64 (negB lo)) ∧ Below W.heap.size W w') fun _ _ ⟨he, hw⟩ => ⟨he, hw ▸ Below.refl _ _⟩)
 clear ilo
 have c6 := hid (fun W (hW : B ≤ W.heap.size) (h : Sx W B A o.m) => (zaN n o ok i j hi_ hj_ hi A cap W (h.rd hW) hm).mono (R' := zar W B (withO o i j hi)) fun _ _ q => q.sx hW)
 have lenb1 : (withO o i j hi).m.length ≤ 17592186044416 := Nat.le_trans (zbX _ _ _ _) hm
 have ok1 : OkO n (withO o i j hi) := ok.with_ hi_ hj_ _
 have c5 := hid (fun A1 c1 W (hW : B ≤ W.heap.size) (h : Sx W B A1 (withO o i j hi).m) => (zaN n (withO o i j hi) ok1 j i hj_ hi_ (negB lo) A1 c1 W (h.rd hW) lenb1).mono (R' := zar W B (withO (withO o i j hi) j i (negB lo))) fun _ _ q => q.sx hW)
 have HR : Hid (pairO o i j ⟨lo, hi, true, true⟩ = withO (withO o i j hi) j i (negB lo)) := hid rfl
 clear lenb1 ok1 ok hm hi_ hj_
 generalize pairO o i j ⟨lo, hi, true, true⟩ = R at *
 generalize withO (withO o i j hi) j i (negB lo) = r2 at *
 generalize withO o i j hi = r1 at *
 generalize negB lo = nl at *
 have c7 := sx
 obtain ⟨p4, p7, p8, a1, b9⟩ := zaj w #[o.n, o.e, .slice A o.m.length cap] #[lo, hi, true, true] #[.int .i64 0, false, .slice none 0 0] 24 49 24
 replace sx := sx.later a1 hB
 clear b9
 go_enter Tryz.func237, Tryz.ntmps237
 have a5 := zaa p4
 have a9 := zag p7
 go_wp2_with fail
 clear a5 a9
 generalize ((w.alloc (Obj.cells #[o.n, o.e, .slice A o.m.length cap] 24)).alloc (Obj.cells #[lo, hi, true, true] 49)).alloc (Obj.cells #[.int .i64 0, false, .slice none 0 0] 24) = w1 at *
 (with_reducible refine (c6.out w1 (Nat.le_trans hB a1.size) sx).mono ?_)
 rintro c4 w2 ⟨A1, c1, rfl, b6, a0⟩
 clear sx c6
 replace p4 := p4.later a0
 replace p7 := p7.later a0
 replace p8 := p8.later a0
 replace a1 := bup a1 a0
 clear a0
 have a5 := zaa p4
 have a9 := zag p7
 go_upto_region 4 with fail
 clear a5 a9
 replace b6 := b6.far3 (g := w.heap.size) (v0 := .int .i64 r1.n) (v1 := .bool r1.e) (v2 := .slice A1 r1.m.length c1) (by omega) p4 (by decide)
 replace p7 := p7.far3 (g := w.heap.size) (v0 := .int .i64 r1.n) (v1 := .bool r1.e) (v2 := .slice A1 r1.m.length c1) (by omega)
 replace p8 := p8.far3 (g := w.heap.size) (v0 := .int .i64 r1.n) (v1 := .bool r1.e) (v2 := .slice A1 r1.m.length c1) (by omega)
 replace p4 := p4.set3 (v0 := .int .i64 r1.n) (v1 := .bool r1.e) (v2 := .slice A1 r1.m.length c1)
 replace a1 := a1.trans (zah (W := w2) (g := w.heap.size) (v0 := .int .i64 r1.n) (v1 := .bool r1.e) (v2 := .slice A1 r1.m.length c1) (by omega) a1.size)
 generalize ((w2.setCell ⟨w.heap.size, 0, none⟩ (.int .i64 r1.n)).setCell ⟨w.heap.size, 1, none⟩ (.bool r1.e)).setCell ⟨w.heap.size, 2, none⟩ (.slice A1 r1.m.length c1) = w3 at *
 have f0 := zab (show w3.cell? ⟨w.heap.size, 0, none⟩ = some (.int .i64 r1.n) from p4.cell 0)
 have f1 := zab (show w3.cell? ⟨w.heap.size, 1, none⟩ = some (.bool r1.e) from p4.cell 1)
 have f2 := zab (show w3.cell? ⟨w.heap.size, 2, none⟩ = some (.slice A1 r1.m.length c1) from p4.cell 2)
 have f3 := zab (show w3.cell? ⟨w.heap.size + 1, 0, none⟩ = some (.int .i64 lo) from p7.cell 0)
 refine zac 6 [Sp.val (.agg #[r1.n, r1.e, .slice A1 r1.m.length c1]), Sp.val (.int .i64 (j : Int)), Sp.val (.int .i64 (i : Int)), Sp.val (.pointer (some ⟨w.heap.size + 1, 0, none⟩)), Sp.val (.int .i64 lo), Sp.val (.int .i64 nl)] (by kernel_rfl) (by kernel_rfl) ?_
 iterate 5 (refine fe_t (fun _ _ => ?_))
 refine zaf.callFV (by rfl) (fun W hW hf => ⟨206, #[lo], by go_simp, b8.out W⟩) (fun _ _ => ?_)
 refine fe_p ?_
 refine zaf.tail (fun W hW hf hd2 => ?_)
 replace hW : Below w3.heap.size w3 W := Ext.trans (Below.refl _ _).drew hW
 clear hf hd2 b8 f0 f1 f2 f3
 replace p4 := p4.later hW
 replace p7 := p7.later hW
 replace p8 := p8.later hW
 replace b6 := b6.later hW (Nat.le_trans hB a1.size)
 replace a1 := bup a1 hW
 clear hW
 go_wp2_with fail
 (with_reducible refine (c5.out A1 c1 W (Nat.le_trans hB a1.size) b6).mono ?_)
 rintro e_w4 w4 ⟨A2, c2, rfl, c3, b1⟩
 clear b6 c5
 replace p4 := p4.later b1
 replace p7 := p7.later b1
 replace p8 := p8.later b1
 replace a1 := bup a1 b1
 clear b1
 have a5 := zaa p4
 have b2 := zaa p8
 go_wp2
 clear a5 b2
 replace c3 := c3.far3 (g := w.heap.size) (v0 := .int .i64 r2.n) (v1 := .bool r2.e) (v2 := .slice A2 r2.m.length c2) (by omega) p4 (by decide)
 replace p7 := p7.far3 (g := w.heap.size) (v0 := .int .i64 r2.n) (v1 := .bool r2.e) (v2 := .slice A2 r2.m.length c2) (by omega)
 replace p8 := p8.far3 (g := w.heap.size) (v0 := .int .i64 r2.n) (v1 := .bool r2.e) (v2 := .slice A2 r2.m.length c2) (by omega)
 replace p4 := p4.set3 (v0 := .int .i64 r2.n) (v1 := .bool r2.e) (v2 := .slice A2 r2.m.length c2)
 replace a1 := a1.trans (zah (W := w4) (g := w.heap.size) (v0 := .int .i64 r2.n) (v1 := .bool r2.e) (v2 := .slice A2 r2.m.length c2) (by omega) a1.size)
 generalize ((w4.setCell ⟨w.heap.size, 0, none⟩ (.int .i64 r2.n)).setCell ⟨w.heap.size, 1, none⟩ (.bool r2.e)).setCell ⟨w.heap.size, 2, none⟩ (.slice A2 r2.m.length c2) = w5 at *
 have q9 := p8.set3 (v0 := .int .i64 r2.n) (v1 := .bool r2.e) (v2 := .slice A2 r2.m.length c2)
 have b7 := a1.trans (zah (W := w5) (g := w.heap.size + 1 + 1) (v0 := .int .i64 r2.n) (v1 := .bool r2.e) (v2 := .slice A2 r2.m.length c2) (by omega) a1.size)
 have c0 := c3.far3 (g := w.heap.size + 1 + 1) (v0 := .int .i64 r2.n) (v1 := .bool r2.e) (v2 := .slice A2 r2.m.length c2) (by omega) p8 (by decide)
 obtain ⟨z0, z1, z2, fz⟩ := zaa q9
 refine bodyPost_ret (v := .agg #[r2.n, r2.e, .slice A2 r2.m.length c2]) (by simp [results, Tryz.results237, go_sem, z0, z1, z2]) rfl ?_
 rw [HR.out]
 exact ⟨_, _, rfl, c0, b7⟩
theorem zjO (n : Int) (o : O) (ok : OkO n o) (i j : Nat) (hi_ : (i : Int) < 2 * n) (hj_ : (j : Int) < 2 * n) (r : Rg) (ilo : I64 r.lo) (A : Option Addr) (cap : Nat) (w : World) (B : Nat) (hB : B ≤ w.heap.size) (sx : Sx w B A o.m) (hm : o.m.length ≤ 17592186044416) :
  Calls Tryz.prog 237 #[.agg #[o.n, o.e, .slice A o.m.length cap], (i : Int), (j : Int), r.val] w (zar w B (pairO o i j r)) := by
 obtain ⟨lo, hi, hl, hh⟩ := r
 cases hl <;> cases hh
 ·exact zju n o ok i j hi_ hj_ lo hi ilo A cap w B hB sx hm
 ·exact zja n o ok i j hi_ hj_ lo hi ilo A cap w B hB sx hm
 ·exact ziS n o ok i j hi_ hj_ lo hi ilo A cap w B hB sx hm
 ·exact zjn n o ok i j hi_ hj_ lo hi ilo A cap w B hB sx hm
end
section
section
variable {W : World} {B g q : Nat} {t : TypeId} {cs : Array Value} {v0 v1 v2 v3 : Value}
theorem Blk.set4 {a0 a1 a2 a3 : Value} (h : Blk W g t #[a0, a1, a2, a3]) : Blk ((((W.setCell ⟨g, 0, none⟩ v0).setCell ⟨g, 1, none⟩ v1).setCell ⟨g, 2, none⟩ v2).setCell ⟨g, 3, none⟩ v3) g t #[v0, v1, v2, v3] :=
 (((h.set_ 0 v0).set_ 1 v1).set_ 2 v2).set_ 3 v3
theorem Blk.far4 (h : Blk W q t cs) (hne : g ≠ q) : Blk ((((W.setCell ⟨g, 0, none⟩ v0).setCell ⟨g, 1, none⟩ v1).setCell ⟨g, 2, none⟩ v2).setCell ⟨g, 3, none⟩ v3) q t cs :=
 (((h.far (p := ⟨g, 0, none⟩) hne v0).far (p := ⟨g, 1, none⟩) hne v1).far (p := ⟨g, 2, none⟩) hne v2).far (p := ⟨g, 3, none⟩) hne v3
theorem Sx.far4 {A : Option Addr} {m : List Int} (h : Sx W B A m) (hg : B ≤ g) (hk : Blk W g t cs) (ht : t ≠ 2) : Sx ((((W.setCell ⟨g, 0, none⟩ v0).setCell ⟨g, 1, none⟩ v1).setCell ⟨g, 2, none⟩ v2).setCell ⟨g, 3, none⟩ v3) B A m :=
 (((h.far1 hg hk ht 0).far1 hg (hk.set_ 0 v0) ht 1).far1 hg ((hk.set_ 0 v0).set_ 1 v1) ht 2).far1 hg (((hk.set_ 0 v0).set_ 1 v1).set_ 2 v2) ht 3
end
section
variable {n : Int} {o : O} (ok : OkO n o) {A : Option Addr} {cap : Nat} {W : World} {B : Nat} (hB : B ≤ W.heap.size) (h : Sx W B A o.m)
include ok hB h
theorem zbv : Calls Tryz.prog 58 #[.agg #[o.n, o.e, .slice A o.m.length cap]] W (zar W B (closeO o)) :=
 (zaT o ok.ok A cap W (h.rd hB) (OkO.small ok)).mono fun _ _ q => q.sx hB
theorem zcm (v : Nat) (hv : (v : Int) < n) : Calls Tryz.prog 132 #[.agg #[o.n, o.e, .slice A o.m.length cap], (v : Int)] W (zar W B (forgetO o v)) :=
 (zbE o ok.ok v (by rw [ok.n_]; exact hv) A cap W (h.rd hB) (OkO.small ok)).mono fun _ _ q => q.sx hB
theorem zeO (v : Nat) (hv : (v : Int) < n) (r : Rg) (hlo : I64 r.lo) : Calls Tryz.prog 152 #[.agg #[o.n, o.e, .slice A o.m.length cap], (v : Int), r.val] W (zar W B (rangedO o v r)) :=
 (zbW n o ok v hv r hlo A cap W (h.rd hB) (OkO.small ok)).mono fun _ _ q => q.sx h hB
theorem zds (v : Nat) (hv : (v : Int) < n) (r : Rg) (hlo : I64 r.lo) : Calls Tryz.prog 75 #[.agg #[o.n, o.e, .slice A o.m.length cap], (v : Int), r.val] W (zar W B (giveO o v r)) :=
 (zfa o ok.ok v (by rw [ok.n_]; exact hv) r hlo A cap W (h.rd hB) (OkO.small ok)).mono fun _ _ q => q.sx hB
theorem zdc (i j : Nat) (hi : (i : Int) < 2 * n) (hj : (j : Int) < 2 * n) (r : Rg) (hlo : I64 r.lo) : Calls Tryz.prog 237 #[.agg #[o.n, o.e, .slice A o.m.length cap], (i : Int), (j : Int), r.val] W (zar W B (pairO o i j r)) :=
 zjO n o ok i j hi hj r hlo A cap W B hB h (OkO.small ok)
end
def zd4 (B : Nat) (o : O) (v : Value) (_ wb : World) : Prop := B ≤ wb.heap.size ∧ ∃ A1 c1, v = .agg #[o.n, o.e, .slice A1 o.m.length c1] ∧ Sx wb B A1 o.m
theorem zdp {w0 W : World} {B : Nat} {o : O} {v : Value} {lo hi : Nat} (h : Sp.fact w0 (Sp.any (zd4 B o)) v lo hi W) : ∃ A1 c1, v = .agg #[o.n, o.e, .slice A1 o.m.length c1] ∧ Sx W B A1 o.m := by
 obtain ⟨wa, wb, _, _, h3, _, _, hB, A1, c1, e, k⟩ := h
 exact ⟨A1, c1, e, k.later h3 hB⟩
theorem zar.out {w w' : World} {B : Nat} {o : O} {e : Ending} (hB : B ≤ w.heap.size) (h : zar w B o e w') : ∃ v, e = .returned v ∧ Ext w w' ∧ zd4 B o v w w' := by
 obtain ⟨A1, c1, he, hs, hb⟩ := h
 exact ⟨_, he, hb, Nat.le_trans hB hb.size, A1, c1, rfl, hs⟩
theorem zdY {u d : Int} (hu : zaq u = true) (hd : zaq d = true) : I64 (za3 u d).lo ∧ I64 (za3 u d).hi := by
 have h1 := bnd hu
 have h2 := bnd hd
 unfold za3 I64
 dsimp only
 constructor <;> split <;> omega
theorem zda {N : Nat} {m : List Int} (v : Nat) : I64 (varR N m v).lo ∧ I64 (varR N m v).hi := by
 have h1 := bnd (za8 (G N m (2 * v) (2 * v + 1)))
 have h2 := bnd (za8 (G N m (2 * v + 1) (2 * v)))
 exact zdY (za8 _) (za8 _)
theorem zgg {n : Int} (h : I64 n) : I64 (negB n) := by unfold negB I64 at *; split <;> omega
theorem zgJ {r : Rg} (h : I64 r.lo ∧ I64 r.hi) : I64 (turnedR r).lo ∧ I64 (turnedR r).hi := ⟨zgg h.2, zgg h.1⟩
end
section
attribute [local go_sem ↓] Go.wp_at_zero Go.wp_at_succ
attribute [local go_sem ↓] zdr zdR
theorem zjx (v m : Int) : opEq v m (-1) 0 = zaD v m := by unfold zaD opEq; rw [Bool.eq_iff_iff]; simp
theorem zjJ (v m : Int) (n : Int) (w : World) :
  Calls Tryz.prog 155 #[opV v m, false, n] w fun e w' => e = .returned (.bool (zaD v m)) ∧ Below w.heap.size w w' := by
 unfold opV
 have n0 := new1 w (.cells #[v, m] 26)
 have k0 := Blk.new w 26 #[v, m]
 go_enter Tryz.func155, Tryz.ntmps155
 go_upto_region 2 with fail
 generalize w.alloc (.cells #[v, m] 26) = w1 at *
 have f0 := later (k0.cell 0)
 have f1 := later (k0.cell 1)
 refine zad 2 (fun W => Below w1.heap.size w1 W) (by kernel_rfl) (by kernel_rfl) (Below.refl _ _).drew ?_
 refine fl_a ?_
 (refine fl_c 207 #[] (opV (-1) 0) (fun X hX => (zi8 _).mono fun e w' ⟨he, hb⟩ => ⟨he, zaI hX hX.size hb⟩) ?_)
 unfold opV
 intro w2 hb2
 go_wp2
 go_ret
 exact ⟨retb (zjx v m), bup n0 hb2⟩
theorem zg9 (v m : Int) (n : Int) (w : World) :
  Calls Tryz.prog 155 #[opV v m, true, n] w fun e w' => e = .returned (.bool (opdOk n v m)) ∧ Below w.heap.size w w' := by
 unfold opV
 have n0 := new1 w (.cells #[v, m] 26)
 go_enter Tryz.func155, Tryz.ntmps155
 cases t1 : (v == -1)
 ·by_cases h2 : 0 ≤ v
  ·by_cases h3 : v < n
   ·go_wp2; go_ret; exact ⟨retb (by unfold opdOk; rw [Bool.eq_iff_iff]; simp; have := beq_eq_false_iff_ne.1 t1; omega), n0⟩
   ·go_wp2; go_ret; exact ⟨retb (by unfold opdOk; rw [Bool.eq_iff_iff]; simp; have := beq_eq_false_iff_ne.1 t1; omega), n0⟩
  ·go_wp2; go_ret; exact ⟨retb (by unfold opdOk; rw [Bool.eq_iff_iff]; simp; have := beq_eq_false_iff_ne.1 t1; omega), n0⟩
 ·go_wp2; go_ret; exact ⟨retb (by unfold opdOk; rw [Bool.eq_iff_iff]; simp; have := beq_iff_eq.1 t1; omega), n0⟩
theorem zaM (b : Bool) (v m : Int) (n : Int) (w : World) :
  Calls Tryz.prog 155 #[opV v m, b, n] w fun e w' => e = .returned (.bool (bif b then opdOk n v m else zaD v m)) ∧ Below w.heap.size w w' := by
 cases b
 ·exact zjJ v m n w
 ·exact zg9 v m n w
end
end Go.Proofs.YtnmpgijiimglcaaGreat
