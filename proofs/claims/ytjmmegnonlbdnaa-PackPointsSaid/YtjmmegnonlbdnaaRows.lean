/-
  No cell of these rows narrows 'for every input' (looked for: loops, veiled, ifaces, maps, wideKeys, modest, calm, conditions, laid).
  DERIVED. THE GIVEN ROWS OF THIS SEAT. 3 by the template 'for every input the law returns true; each argument reads behind the call as it read before'; 0 by the template 'total and deterministic' (their statements: YtjmmegnonlbdnaaTotals.lean).
  GIVEN WITH THE SEED: the statements are not yours to turn. If you find one false, say at which input.
  Laid BY PROGRAM, IN A SANDBOX (cutbox-rows.mjs): the forced cells as the released guide's own fill.sh prints them over the translation 0fc9f1987b8440c3… (all of the seat's roots in one cut). By AI agents, Wed Nov 11 2026. No macro, syntax, notation, axiom, sorry.
-/
import Derived.Test.YtjmmegnonlbdnaaChecked
import GoSem.Claim
import GoSem.ClaimJoined
import GoSem.ClaimMapViews
import Derived.JoinedTies
import Derived.KernelRfl
namespace Go.Proofs.Ytjmmegnonlbdnaa
/- THE CELL 'sum', in the pinned program and in every row, IS THE sha256 OF THE DUMP (.gsa) THAT YtjmmegnonlbdnaaProg.lean LOADS. Nothing in Lean hashes anything: it is a label: what it is worth is what the hold of that sum in a sandbox is worth. -/
noncomputable def Try.pinned : Pinned := { name := "ytjmmegnonlbdnaa", sum := "0fc9f1987b8440c3cd45eceb61a80335c0dc5ebc8f8688bfc0812da0edcf9cf6", checked := Try.checked }
namespace Rows
def none {H : Type} : Left H := { results := [], args := [] }

/-- 'gnomonlaw23.PackGraphs': WHATEVER THE INPUT: true; the input reads as it did. -/
def packGraphsSpec : ChangeSpec := { name := "packGraphs", fn := fun _ => fun
  | [d] => { results := [.lit (.bool true)], args := [d] }
  | _ => none }
def packGraphsRow : OpenClaim := { program := "ytjmmegnonlbdnaa", sum := "0fc9f1987b8440c3cd45eceb61a80335c0dc5ebc8f8688bfc0812da0edcf9cf6", func := "gnomon/gnomonlaw23.PackGraphs", spec := "packGraphs", unfollowed := true, recurses := true, apart := false }
def PackGraphsSaid : Prop := packGraphsRow.holds Try.pinned (OpenSpec.ofChange packGraphsSpec)

/-- ITS FALSE NEIGHBOUR: 'it returns false'. Refute it at one input. -/
def packGraphsWrong : ChangeSpec := { name := "packGraphs", fn := fun _ => fun
  | [d] => { results := [.lit (.bool false)], args := [d] }
  | _ => none }
def PackGraphsWrongFalsely : Prop := packGraphsRow.holds Try.pinned (OpenSpec.ofChange packGraphsWrong)

/-- 'gnomonlaw23.PackExact': WHATEVER THE INPUT: true; the input reads as it did. -/
def packExactSpec : ChangeSpec := { name := "packExact", fn := fun _ => fun
  | [d1, d2, d3] => { results := [.lit (.bool true)], args := [d1, d2, d3] }
  | _ => none }
def packExactRow : OpenClaim := { program := "ytjmmegnonlbdnaa", sum := "0fc9f1987b8440c3cd45eceb61a80335c0dc5ebc8f8688bfc0812da0edcf9cf6", func := "gnomon/gnomonlaw23.PackExact", spec := "packExact", unfollowed := true, recurses := true, apart := false }
def PackExactSaid : Prop := packExactRow.holds Try.pinned (OpenSpec.ofChange packExactSpec)

/-- ITS FALSE NEIGHBOUR: 'it returns false'. Refute it at one input. -/
def packExactWrong : ChangeSpec := { name := "packExact", fn := fun _ => fun
  | [d1, d2, d3] => { results := [.lit (.bool false)], args := [d1, d2, d3] }
  | _ => none }
def PackExactWrongFalsely : Prop := packExactRow.holds Try.pinned (OpenSpec.ofChange packExactWrong)

/-- 'gnomonlaw23.PackPoints': WHATEVER THE INPUT: true; the input reads as it did. -/
def packPointsSpec : ChangeSpec := { name := "packPoints", fn := fun _ => fun
  | [d1, d2, d3] => { results := [.lit (.bool true)], args := [d1, d2, d3] }
  | _ => none }
def packPointsRow : OpenClaim := { program := "ytjmmegnonlbdnaa", sum := "0fc9f1987b8440c3cd45eceb61a80335c0dc5ebc8f8688bfc0812da0edcf9cf6", func := "gnomon/gnomonlaw23.PackPoints", spec := "packPoints", inPlace := ["math/bits.Sub64"], unfollowed := true, recurses := true, apart := false }
def PackPointsSaid : Prop := packPointsRow.holds Try.pinned (OpenSpec.ofChange packPointsSpec)

/-- ITS FALSE NEIGHBOUR: 'it returns false'. Refute it at one input. -/
def packPointsWrong : ChangeSpec := { name := "packPoints", fn := fun _ => fun
  | [d1, d2, d3] => { results := [.lit (.bool false)], args := [d1, d2, d3] }
  | _ => none }
def PackPointsWrongFalsely : Prop := packPointsRow.holds Try.pinned (OpenSpec.ofChange packPointsWrong)

/- THE SECOND FORM. 'bulk': how many values and letters a reading holds, each counted each time it is reached (what is shared counts as often as it is met; a slice's spare places count too). A statement '..UptoSaid' is the law's where the arguments, and the package variables that the reading takes, are together of bulk at most 1048576: NARROWER than '..Said'. Prove '..Said' where nothing that the law and all that it calls make is longer than what came in: it says more and counts as full. Else prove '..UptoSaid'. A law counts once. -/
mutual
def uptoBulk {H : Type} : DataW H → Nat
  | .lit (.string bytes) => bytes.length + 1
  | .lit _ => 1
  | .nil => 1
  | .ptr d => uptoBulk d + 1
  | .slice elems spare => uptoBulkAll elems + uptoBulkAll spare + 1
  | .agg parts => uptoBulkAll parts + 1
  | .iface _ d => uptoBulk d + 1
  | .map entries => uptoBulkEntries entries + 1
  | .held _ => 1
def uptoBulkAll {H : Type} : List (DataW H) → Nat
  | [] => 0
  | d :: r => uptoBulk d + uptoBulkAll r
def uptoBulkEntries {H : Type} : List (Lit × DataW H) → Nat
  | [] => 0
  | x :: r => uptoBulkEntry x + uptoBulkEntries r
def uptoBulkEntry {H : Type} : Lit × DataW H → Nat
  | (.string bytes, d) => bytes.length + uptoBulk d + 1
  | (_, d) => uptoBulk d + 1
 end
def uptoSmall : (H : Type) → List (DataW H) → Bool := fun _ ds => decide (uptoBulkAll ds ≤ 1048576)
def OpenSpec.upto (s : _root_.Go.ChangeSpec) : _root_.Go.OpenSpec := { _root_.Go.OpenSpec.ofChange s with cond := some uptoSmall }

/-- 'gnomonlaw23.PackGraphs', WHERE WHAT IT READS IS OF BULK AT MOST 1048576: true; the input reads as it did. -/
def packGraphsUptoRow : OpenClaim := { program := "ytjmmegnonlbdnaa", sum := "0fc9f1987b8440c3cd45eceb61a80335c0dc5ebc8f8688bfc0812da0edcf9cf6", func := "gnomon/gnomonlaw23.PackGraphs", spec := "packGraphs", unfollowed := true, recurses := true, apart := false, narrowed := true }
def PackGraphsUptoSaid : Prop := packGraphsUptoRow.holds Try.pinned (OpenSpec.upto packGraphsSpec)

/-- 'gnomonlaw23.PackExact', WHERE WHAT IT READS IS OF BULK AT MOST 1048576: true; the input reads as it did. -/
def packExactUptoRow : OpenClaim := { program := "ytjmmegnonlbdnaa", sum := "0fc9f1987b8440c3cd45eceb61a80335c0dc5ebc8f8688bfc0812da0edcf9cf6", func := "gnomon/gnomonlaw23.PackExact", spec := "packExact", unfollowed := true, recurses := true, apart := false, narrowed := true }
def PackExactUptoSaid : Prop := packExactUptoRow.holds Try.pinned (OpenSpec.upto packExactSpec)

/-- 'gnomonlaw23.PackPoints', WHERE WHAT IT READS IS OF BULK AT MOST 1048576: true; the input reads as it did. -/
def packPointsUptoRow : OpenClaim := { program := "ytjmmegnonlbdnaa", sum := "0fc9f1987b8440c3cd45eceb61a80335c0dc5ebc8f8688bfc0812da0edcf9cf6", func := "gnomon/gnomonlaw23.PackPoints", spec := "packPoints", inPlace := ["math/bits.Sub64"], unfollowed := true, recurses := true, apart := false, narrowed := true }
def PackPointsUptoSaid : Prop := packPointsUptoRow.holds Try.pinned (OpenSpec.upto packPointsSpec)

end Rows
end Go.Proofs.Ytjmmegnonlbdnaa
