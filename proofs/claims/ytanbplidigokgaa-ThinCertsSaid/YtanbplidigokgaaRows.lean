/-
  No cell of these rows narrows 'for every input' (looked for: loops, veiled, ifaces, maps, wideKeys, modest, calm, conditions, laid).
  DERIVED. THE GIVEN ROWS OF THIS SEAT. 7 by the template 'for every input the law returns true; each argument reads behind the call as it read before'; 0 by the template 'total and deterministic' (their statements: YtanbplidigokgaaTotals.lean).
  GIVEN WITH THE SEED: the statements are not yours to turn. If you find one false, say at which input.
  Laid BY PROGRAM, IN A SANDBOX (cutbox-rows.mjs): the forced cells as the released guide's own fill.sh prints them over the translation 37f59873be220f66… (all of the seat's roots in one cut). By AI agents, Wed Nov 11 2026. No macro, syntax, notation, axiom, sorry.
-/
import Derived.Test.YtanbplidigokgaaChecked
import GoSem.Claim
import GoSem.ClaimJoined
import GoSem.ClaimMapViews
import Derived.JoinedTies
import Derived.KernelRfl
namespace Go.Proofs.Ytanbplidigokgaa
/- THE CELL 'sum', in the pinned program and in every row, IS THE sha256 OF THE DUMP (.gsa) THAT YtanbplidigokgaaProg.lean LOADS. Nothing in Lean hashes anything: it is a label: what it is worth is what the hold of that sum in a sandbox is worth. -/
noncomputable def Try.pinned : Pinned := { name := "ytanbplidigokgaa", sum := "37f59873be220f661f9f430406141d1ff1a9340019b3108392bb3773bbc4b01d", checked := Try.checked }
namespace Rows
def none {H : Type} : Left H := { results := [], args := [] }

/-- 'gnomonlaw22.WidenExact': WHATEVER THE INPUT: true; the input reads as it did. -/
def widenExactSpec : ChangeSpec := { name := "widenExact", fn := fun _ => fun
  | [d1, d2, d3] => { results := [.lit (.bool true)], args := [d1, d2, d3] }
  | _ => none }
def widenExactRow : OpenClaim := { program := "ytanbplidigokgaa", sum := "37f59873be220f661f9f430406141d1ff1a9340019b3108392bb3773bbc4b01d", func := "gnomon/gnomonlaw22.WidenExact", spec := "widenExact", unfollowed := true, recurses := true, apart := false }
def WidenExactSaid : Prop := widenExactRow.holds Try.pinned (OpenSpec.ofChange widenExactSpec)

/-- ITS FALSE NEIGHBOUR: 'it returns false'. Refute it at one input. -/
def widenExactWrong : ChangeSpec := { name := "widenExact", fn := fun _ => fun
  | [d1, d2, d3] => { results := [.lit (.bool false)], args := [d1, d2, d3] }
  | _ => none }
def WidenExactWrongFalsely : Prop := widenExactRow.holds Try.pinned (OpenSpec.ofChange widenExactWrong)

/-- 'gnomonlaw22.WidenRow': WHATEVER THE INPUT: true; the input reads as it did. -/
def widenRowSpec : ChangeSpec := { name := "widenRow", fn := fun _ => fun
  | [d1, d2, d3] => { results := [.lit (.bool true)], args := [d1, d2, d3] }
  | _ => none }
def widenRowRow : OpenClaim := { program := "ytanbplidigokgaa", sum := "37f59873be220f661f9f430406141d1ff1a9340019b3108392bb3773bbc4b01d", func := "gnomon/gnomonlaw22.WidenRow", spec := "widenRow", unfollowed := true, recurses := true, apart := false }
def WidenRowSaid : Prop := widenRowRow.holds Try.pinned (OpenSpec.ofChange widenRowSpec)

/-- ITS FALSE NEIGHBOUR: 'it returns false'. Refute it at one input. -/
def widenRowWrong : ChangeSpec := { name := "widenRow", fn := fun _ => fun
  | [d1, d2, d3] => { results := [.lit (.bool false)], args := [d1, d2, d3] }
  | _ => none }
def WidenRowWrongFalsely : Prop := widenRowRow.holds Try.pinned (OpenSpec.ofChange widenRowWrong)

/-- 'gnomonlaw22.WidenSame': WHATEVER THE INPUT: true; the input reads as it did. -/
def widenSameSpec : ChangeSpec := { name := "widenSame", fn := fun _ => fun
  | [d1, d2] => { results := [.lit (.bool true)], args := [d1, d2] }
  | _ => none }
def widenSameRow : OpenClaim := { program := "ytanbplidigokgaa", sum := "37f59873be220f661f9f430406141d1ff1a9340019b3108392bb3773bbc4b01d", func := "gnomon/gnomonlaw22.WidenSame", spec := "widenSame", unfollowed := true, recurses := true, apart := false }
def WidenSameSaid : Prop := widenSameRow.holds Try.pinned (OpenSpec.ofChange widenSameSpec)

/-- ITS FALSE NEIGHBOUR: 'it returns false'. Refute it at one input. -/
def widenSameWrong : ChangeSpec := { name := "widenSame", fn := fun _ => fun
  | [d1, d2] => { results := [.lit (.bool false)], args := [d1, d2] }
  | _ => none }
def WidenSameWrongFalsely : Prop := widenSameRow.holds Try.pinned (OpenSpec.ofChange widenSameWrong)

/-- 'gnomonlaw22.WidenBack': WHATEVER THE INPUT: true; the input reads as it did. -/
def widenBackSpec : ChangeSpec := { name := "widenBack", fn := fun _ => fun
  | [d1, d2] => { results := [.lit (.bool true)], args := [d1, d2] }
  | _ => none }
def widenBackRow : OpenClaim := { program := "ytanbplidigokgaa", sum := "37f59873be220f661f9f430406141d1ff1a9340019b3108392bb3773bbc4b01d", func := "gnomon/gnomonlaw22.WidenBack", spec := "widenBack", unfollowed := true, recurses := true, apart := false }
def WidenBackSaid : Prop := widenBackRow.holds Try.pinned (OpenSpec.ofChange widenBackSpec)

/-- ITS FALSE NEIGHBOUR: 'it returns false'. Refute it at one input. -/
def widenBackWrong : ChangeSpec := { name := "widenBack", fn := fun _ => fun
  | [d1, d2] => { results := [.lit (.bool false)], args := [d1, d2] }
  | _ => none }
def WidenBackWrongFalsely : Prop := widenBackRow.holds Try.pinned (OpenSpec.ofChange widenBackWrong)

/-- 'gnomonlaw28.ThinExact': WHATEVER THE INPUT: true; the input reads as it did. -/
def thinExactSpec : ChangeSpec := { name := "thinExact", fn := fun _ => fun
  | [d1, d2, d3] => { results := [.lit (.bool true)], args := [d1, d2, d3] }
  | _ => none }
def thinExactRow : OpenClaim := { program := "ytanbplidigokgaa", sum := "37f59873be220f661f9f430406141d1ff1a9340019b3108392bb3773bbc4b01d", func := "gnomon/gnomonlaw28.ThinExact", spec := "thinExact", unfollowed := true, recurses := true, apart := false }
def ThinExactSaid : Prop := thinExactRow.holds Try.pinned (OpenSpec.ofChange thinExactSpec)

/-- ITS FALSE NEIGHBOUR: 'it returns false'. Refute it at one input. -/
def thinExactWrong : ChangeSpec := { name := "thinExact", fn := fun _ => fun
  | [d1, d2, d3] => { results := [.lit (.bool false)], args := [d1, d2, d3] }
  | _ => none }
def ThinExactWrongFalsely : Prop := thinExactRow.holds Try.pinned (OpenSpec.ofChange thinExactWrong)

/-- 'gnomonlaw28.ThinBack': WHATEVER THE INPUT: true; the input reads as it did. -/
def thinBackSpec : ChangeSpec := { name := "thinBack", fn := fun _ => fun
  | [d] => { results := [.lit (.bool true)], args := [d] }
  | _ => none }
def thinBackRow : OpenClaim := { program := "ytanbplidigokgaa", sum := "37f59873be220f661f9f430406141d1ff1a9340019b3108392bb3773bbc4b01d", func := "gnomon/gnomonlaw28.ThinBack", spec := "thinBack", unfollowed := true, recurses := true, apart := false }
def ThinBackSaid : Prop := thinBackRow.holds Try.pinned (OpenSpec.ofChange thinBackSpec)

/-- ITS FALSE NEIGHBOUR: 'it returns false'. Refute it at one input. -/
def thinBackWrong : ChangeSpec := { name := "thinBack", fn := fun _ => fun
  | [d] => { results := [.lit (.bool false)], args := [d] }
  | _ => none }
def ThinBackWrongFalsely : Prop := thinBackRow.holds Try.pinned (OpenSpec.ofChange thinBackWrong)

/-- 'gnomonlaw28.ThinCerts': WHATEVER THE INPUT: true; the input reads as it did. -/
def thinCertsSpec : ChangeSpec := { name := "thinCerts", fn := fun _ => fun
  | [d] => { results := [.lit (.bool true)], args := [d] }
  | _ => none }
def thinCertsRow : OpenClaim := { program := "ytanbplidigokgaa", sum := "37f59873be220f661f9f430406141d1ff1a9340019b3108392bb3773bbc4b01d", func := "gnomon/gnomonlaw28.ThinCerts", spec := "thinCerts", unfollowed := true, recurses := true, apart := false }
def ThinCertsSaid : Prop := thinCertsRow.holds Try.pinned (OpenSpec.ofChange thinCertsSpec)

/-- ITS FALSE NEIGHBOUR: 'it returns false'. Refute it at one input. -/
def thinCertsWrong : ChangeSpec := { name := "thinCerts", fn := fun _ => fun
  | [d] => { results := [.lit (.bool false)], args := [d] }
  | _ => none }
def ThinCertsWrongFalsely : Prop := thinCertsRow.holds Try.pinned (OpenSpec.ofChange thinCertsWrong)

/- THE SECOND FORM. 'bulk': how many values and letters a reading holds, each counted each time it is reached (what is shared counts as often as it is met; a slice's spare places count too). A statement '..UptoSaid' is the law's where the arguments, and the package variables that the reading takes, are together of bulk at most 1048576: NARROWER than '..Said'. Prove '..Said' where nothing that the law and all that it calls make is longer than what came in: it says more and counts as full. Else prove '..UptoSaid'. A law counts once. -/
mutual
def uptoBulk {H : Type} : DataW H → Nat
  | .lit (.string bytes) => bytes.length + 1
  | .lit _ => 1
  | .nil => 1
  | .ptr d => uptoBulk d + 1
  | .slice elems spare => uptoBulkAll elems + uptoBulkAll spare + 1
  | .agg parts => uptoBulkAll parts + 1
  | .iface _ d => uptoBulk d + 1
  | .map entries => uptoBulkEntries entries + 1
  | .held _ => 1
def uptoBulkAll {H : Type} : List (DataW H) → Nat
  | [] => 0
  | d :: r => uptoBulk d + uptoBulkAll r
def uptoBulkEntries {H : Type} : List (Lit × DataW H) → Nat
  | [] => 0
  | x :: r => uptoBulkEntry x + uptoBulkEntries r
def uptoBulkEntry {H : Type} : Lit × DataW H → Nat
  | (.string bytes, d) => bytes.length + uptoBulk d + 1
  | (_, d) => uptoBulk d + 1
 end
def uptoSmall : (H : Type) → List (DataW H) → Bool := fun _ ds => decide (uptoBulkAll ds ≤ 1048576)
def OpenSpec.upto (s : _root_.Go.ChangeSpec) : _root_.Go.OpenSpec := { _root_.Go.OpenSpec.ofChange s with cond := some uptoSmall }

/-- 'gnomonlaw22.WidenExact', WHERE WHAT IT READS IS OF BULK AT MOST 1048576: true; the input reads as it did. -/
def widenExactUptoRow : OpenClaim := { program := "ytanbplidigokgaa", sum := "37f59873be220f661f9f430406141d1ff1a9340019b3108392bb3773bbc4b01d", func := "gnomon/gnomonlaw22.WidenExact", spec := "widenExact", unfollowed := true, recurses := true, apart := false, narrowed := true }
def WidenExactUptoSaid : Prop := widenExactUptoRow.holds Try.pinned (OpenSpec.upto widenExactSpec)

/-- 'gnomonlaw22.WidenRow', WHERE WHAT IT READS IS OF BULK AT MOST 1048576: true; the input reads as it did. -/
def widenRowUptoRow : OpenClaim := { program := "ytanbplidigokgaa", sum := "37f59873be220f661f9f430406141d1ff1a9340019b3108392bb3773bbc4b01d", func := "gnomon/gnomonlaw22.WidenRow", spec := "widenRow", unfollowed := true, recurses := true, apart := false, narrowed := true }
def WidenRowUptoSaid : Prop := widenRowUptoRow.holds Try.pinned (OpenSpec.upto widenRowSpec)

/-- 'gnomonlaw22.WidenSame', WHERE WHAT IT READS IS OF BULK AT MOST 1048576: true; the input reads as it did. -/
def widenSameUptoRow : OpenClaim := { program := "ytanbplidigokgaa", sum := "37f59873be220f661f9f430406141d1ff1a9340019b3108392bb3773bbc4b01d", func := "gnomon/gnomonlaw22.WidenSame", spec := "widenSame", unfollowed := true, recurses := true, apart := false, narrowed := true }
def WidenSameUptoSaid : Prop := widenSameUptoRow.holds Try.pinned (OpenSpec.upto widenSameSpec)

/-- 'gnomonlaw22.WidenBack', WHERE WHAT IT READS IS OF BULK AT MOST 1048576: true; the input reads as it did. -/
def widenBackUptoRow : OpenClaim := { program := "ytanbplidigokgaa", sum := "37f59873be220f661f9f430406141d1ff1a9340019b3108392bb3773bbc4b01d", func := "gnomon/gnomonlaw22.WidenBack", spec := "widenBack", unfollowed := true, recurses := true, apart := false, narrowed := true }
def WidenBackUptoSaid : Prop := widenBackUptoRow.holds Try.pinned (OpenSpec.upto widenBackSpec)

/-- 'gnomonlaw28.ThinExact', WHERE WHAT IT READS IS OF BULK AT MOST 1048576: true; the input reads as it did. -/
def thinExactUptoRow : OpenClaim := { program := "ytanbplidigokgaa", sum := "37f59873be220f661f9f430406141d1ff1a9340019b3108392bb3773bbc4b01d", func := "gnomon/gnomonlaw28.ThinExact", spec := "thinExact", unfollowed := true, recurses := true, apart := false, narrowed := true }
def ThinExactUptoSaid : Prop := thinExactUptoRow.holds Try.pinned (OpenSpec.upto thinExactSpec)

/-- 'gnomonlaw28.ThinBack', WHERE WHAT IT READS IS OF BULK AT MOST 1048576: true; the input reads as it did. -/
def thinBackUptoRow : OpenClaim := { program := "ytanbplidigokgaa", sum := "37f59873be220f661f9f430406141d1ff1a9340019b3108392bb3773bbc4b01d", func := "gnomon/gnomonlaw28.ThinBack", spec := "thinBack", unfollowed := true, recurses := true, apart := false, narrowed := true }
def ThinBackUptoSaid : Prop := thinBackUptoRow.holds Try.pinned (OpenSpec.upto thinBackSpec)

/-- 'gnomonlaw28.ThinCerts', WHERE WHAT IT READS IS OF BULK AT MOST 1048576: true; the input reads as it did. -/
def thinCertsUptoRow : OpenClaim := { program := "ytanbplidigokgaa", sum := "37f59873be220f661f9f430406141d1ff1a9340019b3108392bb3773bbc4b01d", func := "gnomon/gnomonlaw28.ThinCerts", spec := "thinCerts", unfollowed := true, recurses := true, apart := false, narrowed := true }
def ThinCertsUptoSaid : Prop := thinCertsUptoRow.holds Try.pinned (OpenSpec.upto thinCertsSpec)

end Rows
end Go.Proofs.Ytanbplidigokgaa
