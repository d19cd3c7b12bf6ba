/-
  No cell of these rows narrows 'for every input' (looked for: loops, veiled, ifaces, maps, wideKeys, modest, calm, conditions, laid).
  DERIVED. THE GIVEN ROWS OF THIS SEAT. 3 by the template 'for every input the law returns true; each argument reads behind the call as it read before'; 0 by the template 'total and deterministic' (their statements: YtkncebcekhfnfaaGreatTotals.lean).
  GIVEN WITH THE SEED: the statements are not yours to turn. If you find one false, say at which input.
  Laid BY PROGRAM, IN A SANDBOX (cutbox-rows.mjs): the forced cells as the released guide's own fill.sh prints them over the translation fe63e7526c5dabbc… (all of the seat's roots in one cut). By AI agents, Wed Nov 11 2026. No macro, syntax, notation, axiom, sorry.
-/
import Derived.Test.YtkncebcekhfnfaaGreatChecked
import GoSem.Claim
import GoSem.ClaimJoined
import GoSem.ClaimMapViews
import Derived.JoinedTies
import Derived.KernelRfl
namespace Go.Proofs.YtkncebcekhfnfaaGreat
/- THE CELL 'sum', in the pinned program and in every row, IS THE sha256 OF THE DUMP (.gsa) THAT YtkncebcekhfnfaaGreatProg.lean LOADS. Nothing in Lean hashes anything: it is a label: what it is worth is what the hold of that sum in a sandbox is worth. -/
noncomputable def Tryz.pinned : Pinned := { name := "ytkncebcekhfnfaagreat", sum := "fe63e7526c5dabbce069ac4096387f20826b254f3426b274c23b0bfee0fd3d02", checked := Tryz.checked }
namespace Rows
def none {H : Type} : Left H := { results := [], args := [] }

/-- 'gnomonlaw27.WatchExact': WHATEVER THE INPUT: true; the input reads as it did. -/
def watchExactSpec : ChangeSpec := { name := "watchExact", fn := fun _ => fun
  | [d1, d2, d3, d4] => { results := [.lit (.bool true)], args := [d1, d2, d3, d4] }
  | _ => none }
def watchExactRow : OpenClaim := { program := "ytkncebcekhfnfaagreat", sum := "fe63e7526c5dabbce069ac4096387f20826b254f3426b274c23b0bfee0fd3d02", func := "gnomon/gnomonlaw27.WatchExact", spec := "watchExact", inPlace := ["math/bits.Sub64"], unfollowed := true, recurses := true, apart := false }
def WatchExactSaid : Prop := watchExactRow.holds Tryz.pinned (OpenSpec.ofChange watchExactSpec)

/-- ITS FALSE NEIGHBOUR: 'it returns false'. Refute it at one input. -/
def watchExactWrong : ChangeSpec := { name := "watchExact", fn := fun _ => fun
  | [d1, d2, d3, d4] => { results := [.lit (.bool false)], args := [d1, d2, d3, d4] }
  | _ => none }
def WatchExactWrongFalsely : Prop := watchExactRow.holds Tryz.pinned (OpenSpec.ofChange watchExactWrong)

/-- 'gnomonlaw27.WatchLearns': WHATEVER THE INPUT: true; the input reads as it did. -/
def watchLearnsSpec : ChangeSpec := { name := "watchLearns", fn := fun _ => fun
  | [d1, d2, d3] => { results := [.lit (.bool true)], args := [d1, d2, d3] }
  | _ => none }
def watchLearnsRow : OpenClaim := { program := "ytkncebcekhfnfaagreat", sum := "fe63e7526c5dabbce069ac4096387f20826b254f3426b274c23b0bfee0fd3d02", func := "gnomon/gnomonlaw27.WatchLearns", spec := "watchLearns", inPlace := ["math/bits.Sub64"], unfollowed := true, recurses := true, apart := false }
def WatchLearnsSaid : Prop := watchLearnsRow.holds Tryz.pinned (OpenSpec.ofChange watchLearnsSpec)

/-- ITS FALSE NEIGHBOUR: 'it returns false'. Refute it at one input. -/
def watchLearnsWrong : ChangeSpec := { name := "watchLearns", fn := fun _ => fun
  | [d1, d2, d3] => { results := [.lit (.bool false)], args := [d1, d2, d3] }
  | _ => none }
def WatchLearnsWrongFalsely : Prop := watchLearnsRow.holds Tryz.pinned (OpenSpec.ofChange watchLearnsWrong)

/-- 'gnomonlaw27.WatchTight': WHATEVER THE INPUT: true; the input reads as it did. -/
def watchTightSpec : ChangeSpec := { name := "watchTight", fn := fun _ => fun
  | [d1, d2, d3, d4] => { results := [.lit (.bool true)], args := [d1, d2, d3, d4] }
  | _ => none }
def watchTightRow : OpenClaim := { program := "ytkncebcekhfnfaagreat", sum := "fe63e7526c5dabbce069ac4096387f20826b254f3426b274c23b0bfee0fd3d02", func := "gnomon/gnomonlaw27.WatchTight", spec := "watchTight", inPlace := ["math/bits.Sub64"], unfollowed := true, recurses := true, apart := false }
def WatchTightSaid : Prop := watchTightRow.holds Tryz.pinned (OpenSpec.ofChange watchTightSpec)

/-- ITS FALSE NEIGHBOUR: 'it returns false'. Refute it at one input. -/
def watchTightWrong : ChangeSpec := { name := "watchTight", fn := fun _ => fun
  | [d1, d2, d3, d4] => { results := [.lit (.bool false)], args := [d1, d2, d3, d4] }
  | _ => none }
def WatchTightWrongFalsely : Prop := watchTightRow.holds Tryz.pinned (OpenSpec.ofChange watchTightWrong)

/- THE SECOND FORM. 'bulk': how many values and letters a reading holds, each counted each time it is reached (what is shared counts as often as it is met; a slice's spare places count too). A statement '..UptoSaid' is the law's where the arguments, and the package variables that the reading takes, are together of bulk at most 1048576: NARROWER than '..Said'. Prove '..Said' where nothing that the law and all that it calls make is longer than what came in: it says more and counts as full. Else prove '..UptoSaid'. A law counts once. -/
mutual
def uptoBulk {H : Type} : DataW H → Nat
  | .lit (.string bytes) => bytes.length + 1
  | .lit _ => 1
  | .nil => 1
  | .ptr d => uptoBulk d + 1
  | .slice elems spare => uptoBulkAll elems + uptoBulkAll spare + 1
  | .agg parts => uptoBulkAll parts + 1
  | .iface _ d => uptoBulk d + 1
  | .map entries => uptoBulkEntries entries + 1
  | .held _ => 1
def uptoBulkAll {H : Type} : List (DataW H) → Nat
  | [] => 0
  | d :: r => uptoBulk d + uptoBulkAll r
def uptoBulkEntries {H : Type} : List (Lit × DataW H) → Nat
  | [] => 0
  | x :: r => uptoBulkEntry x + uptoBulkEntries r
def uptoBulkEntry {H : Type} : Lit × DataW H → Nat
  | (.string bytes, d) => bytes.length + uptoBulk d + 1
  | (_, d) => uptoBulk d + 1
 end
def uptoSmall : (H : Type) → List (DataW H) → Bool := fun _ ds => decide (uptoBulkAll ds ≤ 1048576)
def OpenSpec.upto (s : _root_.Go.ChangeSpec) : _root_.Go.OpenSpec := { _root_.Go.OpenSpec.ofChange s with cond := some uptoSmall }

/-- 'gnomonlaw27.WatchExact', WHERE WHAT IT READS IS OF BULK AT MOST 1048576: true; the input reads as it did. -/
def watchExactUptoRow : OpenClaim := { program := "ytkncebcekhfnfaagreat", sum := "fe63e7526c5dabbce069ac4096387f20826b254f3426b274c23b0bfee0fd3d02", func := "gnomon/gnomonlaw27.WatchExact", spec := "watchExact", inPlace := ["math/bits.Sub64"], unfollowed := true, recurses := true, apart := false, narrowed := true }
def WatchExactUptoSaid : Prop := watchExactUptoRow.holds Tryz.pinned (OpenSpec.upto watchExactSpec)

/-- 'gnomonlaw27.WatchLearns', WHERE WHAT IT READS IS OF BULK AT MOST 1048576: true; the input reads as it did. -/
def watchLearnsUptoRow : OpenClaim := { program := "ytkncebcekhfnfaagreat", sum := "fe63e7526c5dabbce069ac4096387f20826b254f3426b274c23b0bfee0fd3d02", func := "gnomon/gnomonlaw27.WatchLearns", spec := "watchLearns", inPlace := ["math/bits.Sub64"], unfollowed := true, recurses := true, apart := false, narrowed := true }
def WatchLearnsUptoSaid : Prop := watchLearnsUptoRow.holds Tryz.pinned (OpenSpec.upto watchLearnsSpec)

/-- 'gnomonlaw27.WatchTight', WHERE WHAT IT READS IS OF BULK AT MOST 1048576: true; the input reads as it did. -/
def watchTightUptoRow : OpenClaim := { program := "ytkncebcekhfnfaagreat", sum := "fe63e7526c5dabbce069ac4096387f20826b254f3426b274c23b0bfee0fd3d02", func := "gnomon/gnomonlaw27.WatchTight", spec := "watchTight", inPlace := ["math/bits.Sub64"], unfollowed := true, recurses := true, apart := false, narrowed := true }
def WatchTightUptoSaid : Prop := watchTightUptoRow.holds Tryz.pinned (OpenSpec.upto watchTightSpec)

end Rows
end Go.Proofs.YtkncebcekhfnfaaGreat
