/-
  No cell of these rows narrows 'for every input' (looked for: loops, veiled, ifaces, maps, wideKeys, modest, calm, conditions, laid).
  DERIVED. THE GIVEN ROWS OF THIS SEAT. 16 by the template 'for every input the law returns true; each argument reads behind the call as it read before'; 0 by the template 'total and deterministic' (their statements: YtnmpgijiimglcaaGreatTotals.lean).
  GIVEN WITH THE SEED: the statements are not yours to turn. If you find one false, say at which input.
  Laid BY PROGRAM, IN A SANDBOX (cutbox-rows.mjs): the forced cells as the released guide's own fill.sh prints them over the translation eadcc444539f42c2… (all of the seat's roots in one cut). By AI agents, Wed Nov 11 2026. No macro, syntax, notation, axiom, sorry.
-/
import Derived.Test.YtnmpgijiimglcaaGreatChecked
import GoSem.Claim
import GoSem.ClaimJoined
import GoSem.ClaimMapViews
import Derived.JoinedTies
import Derived.KernelRfl
namespace Go.Proofs.YtnmpgijiimglcaaGreat
/- THE CELL 'sum', in the pinned program and in every row, IS THE sha256 OF THE DUMP (.gsa) THAT YtnmpgijiimglcaaGreatProg.lean LOADS. Nothing in Lean hashes anything: it is a label: what it is worth is what the hold of that sum in a sandbox is worth. -/
noncomputable def Tryz.pinned : Pinned := { name := "ytnmpgijiimglcaagreat", sum := "eadcc444539f42c21bf30da5bfd392e55d8fdde03484910a82689f379b9cd158", checked := Tryz.checked }
namespace Rows
def none {H : Type} : Left H := { results := [], args := [] }

/-- 'gnomonlaw16.TransAssumes': WHATEVER THE INPUT: true; the input reads as it did. -/
def transAssumesSpec : ChangeSpec := { name := "transAssumes", fn := fun _ => fun
  | [d1, d2, d3, d4] => { results := [.lit (.bool true)], args := [d1, d2, d3, d4] }
  | _ => none }
def transAssumesRow : OpenClaim := { program := "ytnmpgijiimglcaagreat", sum := "eadcc444539f42c21bf30da5bfd392e55d8fdde03484910a82689f379b9cd158", func := "gnomon/gnomonlaw16.TransAssumes", spec := "transAssumes", unfollowed := true, recurses := true, apart := false }
def TransAssumesSaid : Prop := transAssumesRow.holds Tryz.pinned (OpenSpec.ofChange transAssumesSpec)

/-- ITS FALSE NEIGHBOUR: 'it returns false'. Refute it at one input. -/
def transAssumesWrong : ChangeSpec := { name := "transAssumes", fn := fun _ => fun
  | [d1, d2, d3, d4] => { results := [.lit (.bool false)], args := [d1, d2, d3, d4] }
  | _ => none }
def TransAssumesWrongFalsely : Prop := transAssumesRow.holds Tryz.pinned (OpenSpec.ofChange transAssumesWrong)

/-- 'gnomonlaw16.TransSwap': WHATEVER THE INPUT: true; the input reads as it did. -/
def transSwapSpec : ChangeSpec := { name := "transSwap", fn := fun _ => fun
  | [d1, d2, d3] => { results := [.lit (.bool true)], args := [d1, d2, d3] }
  | _ => none }
def transSwapRow : OpenClaim := { program := "ytnmpgijiimglcaagreat", sum := "eadcc444539f42c21bf30da5bfd392e55d8fdde03484910a82689f379b9cd158", func := "gnomon/gnomonlaw16.TransSwap", spec := "transSwap", unfollowed := true, recurses := true, apart := false }
def TransSwapSaid : Prop := transSwapRow.holds Tryz.pinned (OpenSpec.ofChange transSwapSpec)

/-- ITS FALSE NEIGHBOUR: 'it returns false'. Refute it at one input. -/
def transSwapWrong : ChangeSpec := { name := "transSwap", fn := fun _ => fun
  | [d1, d2, d3] => { results := [.lit (.bool false)], args := [d1, d2, d3] }
  | _ => none }
def TransSwapWrongFalsely : Prop := transSwapRow.holds Tryz.pinned (OpenSpec.ofChange transSwapWrong)

/-- 'gnomonlaw16.TransShift': WHATEVER THE INPUT: true; the input reads as it did. -/
def transShiftSpec : ChangeSpec := { name := "transShift", fn := fun _ => fun
  | [d1, d2, d3] => { results := [.lit (.bool true)], args := [d1, d2, d3] }
  | _ => none }
def transShiftRow : OpenClaim := { program := "ytnmpgijiimglcaagreat", sum := "eadcc444539f42c21bf30da5bfd392e55d8fdde03484910a82689f379b9cd158", func := "gnomon/gnomonlaw16.TransShift", spec := "transShift", unfollowed := true, recurses := true, apart := false }
def TransShiftSaid : Prop := transShiftRow.holds Tryz.pinned (OpenSpec.ofChange transShiftSpec)

/-- ITS FALSE NEIGHBOUR: 'it returns false'. Refute it at one input. -/
def transShiftWrong : ChangeSpec := { name := "transShift", fn := fun _ => fun
  | [d1, d2, d3] => { results := [.lit (.bool false)], args := [d1, d2, d3] }
  | _ => none }
def TransShiftWrongFalsely : Prop := transShiftRow.holds Tryz.pinned (OpenSpec.ofChange transShiftWrong)

/-- 'gnomonlaw16.TransGives': WHATEVER THE INPUT: true; the input reads as it did. -/
def transGivesSpec : ChangeSpec := { name := "transGives", fn := fun _ => fun
  | [d1, d2, d3] => { results := [.lit (.bool true)], args := [d1, d2, d3] }
  | _ => none }
def transGivesRow : OpenClaim := { program := "ytnmpgijiimglcaagreat", sum := "eadcc444539f42c21bf30da5bfd392e55d8fdde03484910a82689f379b9cd158", func := "gnomon/gnomonlaw16.TransGives", spec := "transGives", unfollowed := true, recurses := true, apart := false }
def TransGivesSaid : Prop := transGivesRow.holds Tryz.pinned (OpenSpec.ofChange transGivesSpec)

/-- ITS FALSE NEIGHBOUR: 'it returns false'. Refute it at one input. -/
def transGivesWrong : ChangeSpec := { name := "transGives", fn := fun _ => fun
  | [d1, d2, d3] => { results := [.lit (.bool false)], args := [d1, d2, d3] }
  | _ => none }
def TransGivesWrongFalsely : Prop := transGivesRow.holds Tryz.pinned (OpenSpec.ofChange transGivesWrong)

/-- 'gnomonlaw16.TransExact': WHATEVER THE INPUT: true; the input reads as it did. -/
def transExactSpec : ChangeSpec := { name := "transExact", fn := fun _ => fun
  | [d1, d2] => { results := [.lit (.bool true)], args := [d1, d2] }
  | _ => none }
def transExactRow : OpenClaim := { program := "ytnmpgijiimglcaagreat", sum := "eadcc444539f42c21bf30da5bfd392e55d8fdde03484910a82689f379b9cd158", func := "gnomon/gnomonlaw16.TransExact", spec := "transExact", unfollowed := true, recurses := true, apart := false }
def TransExactSaid : Prop := transExactRow.holds Tryz.pinned (OpenSpec.ofChange transExactSpec)

/-- ITS FALSE NEIGHBOUR: 'it returns false'. Refute it at one input. -/
def transExactWrong : ChangeSpec := { name := "transExact", fn := fun _ => fun
  | [d1, d2] => { results := [.lit (.bool false)], args := [d1, d2] }
  | _ => none }
def TransExactWrongFalsely : Prop := transExactRow.holds Tryz.pinned (OpenSpec.ofChange transExactWrong)

/-- 'gnomonlaw16.TransLine': WHATEVER THE INPUT: true; the input reads as it did. -/
def transLineSpec : ChangeSpec := { name := "transLine", fn := fun _ => fun
  | [d1, d2] => { results := [.lit (.bool true)], args := [d1, d2] }
  | _ => none }
def transLineRow : OpenClaim := { program := "ytnmpgijiimglcaagreat", sum := "eadcc444539f42c21bf30da5bfd392e55d8fdde03484910a82689f379b9cd158", func := "gnomon/gnomonlaw16.TransLine", spec := "transLine", unfollowed := true, recurses := true, apart := false }
def TransLineSaid : Prop := transLineRow.holds Tryz.pinned (OpenSpec.ofChange transLineSpec)

/-- ITS FALSE NEIGHBOUR: 'it returns false'. Refute it at one input. -/
def transLineWrong : ChangeSpec := { name := "transLine", fn := fun _ => fun
  | [d1, d2] => { results := [.lit (.bool false)], args := [d1, d2] }
  | _ => none }
def TransLineWrongFalsely : Prop := transLineRow.holds Tryz.pinned (OpenSpec.ofChange transLineWrong)

/-- 'gnomonlaw16.TransTight': WHATEVER THE INPUT: true; the input reads as it did. -/
def transTightSpec : ChangeSpec := { name := "transTight", fn := fun _ => fun
  | [d1, d2] => { results := [.lit (.bool true)], args := [d1, d2] }
  | _ => none }
def transTightRow : OpenClaim := { program := "ytnmpgijiimglcaagreat", sum := "eadcc444539f42c21bf30da5bfd392e55d8fdde03484910a82689f379b9cd158", func := "gnomon/gnomonlaw16.TransTight", spec := "transTight", unfollowed := true, recurses := true, apart := false }
def TransTightSaid : Prop := transTightRow.holds Tryz.pinned (OpenSpec.ofChange transTightSpec)

/-- ITS FALSE NEIGHBOUR: 'it returns false'. Refute it at one input. -/
def transTightWrong : ChangeSpec := { name := "transTight", fn := fun _ => fun
  | [d1, d2] => { results := [.lit (.bool false)], args := [d1, d2] }
  | _ => none }
def TransTightWrongFalsely : Prop := transTightRow.holds Tryz.pinned (OpenSpec.ofChange transTightWrong)

/-- 'gnomonlaw16.TransSound': WHATEVER THE INPUT: true; the input reads as it did. -/
def transSoundSpec : ChangeSpec := { name := "transSound", fn := fun _ => fun
  | [d1, d2, d3, d4, d5] => { results := [.lit (.bool true)], args := [d1, d2, d3, d4, d5] }
  | _ => none }
def transSoundRow : OpenClaim := { program := "ytnmpgijiimglcaagreat", sum := "eadcc444539f42c21bf30da5bfd392e55d8fdde03484910a82689f379b9cd158", func := "gnomon/gnomonlaw16.TransSound", spec := "transSound", inPlace := ["math/bits.Sub64"], unfollowed := true, recurses := true, apart := false }
def TransSoundSaid : Prop := transSoundRow.holds Tryz.pinned (OpenSpec.ofChange transSoundSpec)

/-- ITS FALSE NEIGHBOUR: 'it returns false'. Refute it at one input. -/
def transSoundWrong : ChangeSpec := { name := "transSound", fn := fun _ => fun
  | [d1, d2, d3, d4, d5] => { results := [.lit (.bool false)], args := [d1, d2, d3, d4, d5] }
  | _ => none }
def TransSoundWrongFalsely : Prop := transSoundRow.holds Tryz.pinned (OpenSpec.ofChange transSoundWrong)

/-- 'gnomonlaw16.TransFewer': WHATEVER THE INPUT: true; the input reads as it did. -/
def transFewerSpec : ChangeSpec := { name := "transFewer", fn := fun _ => fun
  | [d1, d2, d3, d4, d5] => { results := [.lit (.bool true)], args := [d1, d2, d3, d4, d5] }
  | _ => none }
def transFewerRow : OpenClaim := { program := "ytnmpgijiimglcaagreat", sum := "eadcc444539f42c21bf30da5bfd392e55d8fdde03484910a82689f379b9cd158", func := "gnomon/gnomonlaw16.TransFewer", spec := "transFewer", inPlace := ["math/bits.Sub64"], unfollowed := true, recurses := true, apart := false }
def TransFewerSaid : Prop := transFewerRow.holds Tryz.pinned (OpenSpec.ofChange transFewerSpec)

/-- ITS FALSE NEIGHBOUR: 'it returns false'. Refute it at one input. -/
def transFewerWrong : ChangeSpec := { name := "transFewer", fn := fun _ => fun
  | [d1, d2, d3, d4, d5] => { results := [.lit (.bool false)], args := [d1, d2, d3, d4, d5] }
  | _ => none }
def TransFewerWrongFalsely : Prop := transFewerRow.holds Tryz.pinned (OpenSpec.ofChange transFewerWrong)

/-- 'gnomonlaw17.SafeExact': WHATEVER THE INPUT: true; the input reads as it did. -/
def safeExactSpec : ChangeSpec := { name := "safeExact", fn := fun _ => fun
  | [d1, d2, d3] => { results := [.lit (.bool true)], args := [d1, d2, d3] }
  | _ => none }
def safeExactRow : OpenClaim := { program := "ytnmpgijiimglcaagreat", sum := "eadcc444539f42c21bf30da5bfd392e55d8fdde03484910a82689f379b9cd158", func := "gnomon/gnomonlaw17.SafeExact", spec := "safeExact", unfollowed := true, recurses := true, apart := false }
def SafeExactSaid : Prop := safeExactRow.holds Tryz.pinned (OpenSpec.ofChange safeExactSpec)

/-- ITS FALSE NEIGHBOUR: 'it returns false'. Refute it at one input. -/
def safeExactWrong : ChangeSpec := { name := "safeExact", fn := fun _ => fun
  | [d1, d2, d3] => { results := [.lit (.bool false)], args := [d1, d2, d3] }
  | _ => none }
def SafeExactWrongFalsely : Prop := safeExactRow.holds Tryz.pinned (OpenSpec.ofChange safeExactWrong)

/-- 'gnomonlaw17.SafeFits': WHATEVER THE INPUT: true; the input reads as it did. -/
def safeFitsSpec : ChangeSpec := { name := "safeFits", fn := fun _ => fun
  | [d1, d2, d3] => { results := [.lit (.bool true)], args := [d1, d2, d3] }
  | _ => none }
def safeFitsRow : OpenClaim := { program := "ytnmpgijiimglcaagreat", sum := "eadcc444539f42c21bf30da5bfd392e55d8fdde03484910a82689f379b9cd158", func := "gnomon/gnomonlaw17.SafeFits", spec := "safeFits", unfollowed := true, recurses := true, apart := false }
def SafeFitsSaid : Prop := safeFitsRow.holds Tryz.pinned (OpenSpec.ofChange safeFitsSpec)

/-- ITS FALSE NEIGHBOUR: 'it returns false'. Refute it at one input. -/
def safeFitsWrong : ChangeSpec := { name := "safeFits", fn := fun _ => fun
  | [d1, d2, d3] => { results := [.lit (.bool false)], args := [d1, d2, d3] }
  | _ => none }
def SafeFitsWrongFalsely : Prop := safeFitsRow.holds Tryz.pinned (OpenSpec.ofChange safeFitsWrong)

/-- 'gnomonlaw17.SafeRanges': WHATEVER THE INPUT: true; the input reads as it did. -/
def safeRangesSpec : ChangeSpec := { name := "safeRanges", fn := fun _ => fun
  | [d1, d2, d3, d4, d5] => { results := [.lit (.bool true)], args := [d1, d2, d3, d4, d5] }
  | _ => none }
def safeRangesRow : OpenClaim := { program := "ytnmpgijiimglcaagreat", sum := "eadcc444539f42c21bf30da5bfd392e55d8fdde03484910a82689f379b9cd158", func := "gnomon/gnomonlaw17.SafeRanges", spec := "safeRanges", unfollowed := true, recurses := true, apart := false }
def SafeRangesSaid : Prop := safeRangesRow.holds Tryz.pinned (OpenSpec.ofChange safeRangesSpec)

/-- ITS FALSE NEIGHBOUR: 'it returns false'. Refute it at one input. -/
def safeRangesWrong : ChangeSpec := { name := "safeRanges", fn := fun _ => fun
  | [d1, d2, d3, d4, d5] => { results := [.lit (.bool false)], args := [d1, d2, d3, d4, d5] }
  | _ => none }
def SafeRangesWrongFalsely : Prop := safeRangesRow.holds Tryz.pinned (OpenSpec.ofChange safeRangesWrong)

/-- 'gnomonlaw17.SafeStays': WHATEVER THE INPUT: true; the input reads as it did. -/
def safeStaysSpec : ChangeSpec := { name := "safeStays", fn := fun _ => fun
  | [d1, d2, d3, d4, d5, d6] => { results := [.lit (.bool true)], args := [d1, d2, d3, d4, d5, d6] }
  | _ => none }
def safeStaysRow : OpenClaim := { program := "ytnmpgijiimglcaagreat", sum := "eadcc444539f42c21bf30da5bfd392e55d8fdde03484910a82689f379b9cd158", func := "gnomon/gnomonlaw17.SafeStays", spec := "safeStays", unfollowed := true, recurses := true, apart := false }
def SafeStaysSaid : Prop := safeStaysRow.holds Tryz.pinned (OpenSpec.ofChange safeStaysSpec)

/-- ITS FALSE NEIGHBOUR: 'it returns false'. Refute it at one input. -/
def safeStaysWrong : ChangeSpec := { name := "safeStays", fn := fun _ => fun
  | [d1, d2, d3, d4, d5, d6] => { results := [.lit (.bool false)], args := [d1, d2, d3, d4, d5, d6] }
  | _ => none }
def SafeStaysWrongFalsely : Prop := safeStaysRow.holds Tryz.pinned (OpenSpec.ofChange safeStaysWrong)

/-- 'gnomonlaw17.SafeSums': WHATEVER THE INPUT: true; the input reads as it did. -/
def safeSumsSpec : ChangeSpec := { name := "safeSums", fn := fun _ => fun
  | [d1, d2, d3] => { results := [.lit (.bool true)], args := [d1, d2, d3] }
  | _ => none }
def safeSumsRow : OpenClaim := { program := "ytnmpgijiimglcaagreat", sum := "eadcc444539f42c21bf30da5bfd392e55d8fdde03484910a82689f379b9cd158", func := "gnomon/gnomonlaw17.SafeSums", spec := "safeSums", unfollowed := true, recurses := true, apart := false }
def SafeSumsSaid : Prop := safeSumsRow.holds Tryz.pinned (OpenSpec.ofChange safeSumsSpec)

/-- ITS FALSE NEIGHBOUR: 'it returns false'. Refute it at one input. -/
def safeSumsWrong : ChangeSpec := { name := "safeSums", fn := fun _ => fun
  | [d1, d2, d3] => { results := [.lit (.bool false)], args := [d1, d2, d3] }
  | _ => none }
def SafeSumsWrongFalsely : Prop := safeSumsRow.holds Tryz.pinned (OpenSpec.ofChange safeSumsWrong)

/-- 'gnomonlaw17.SafePlaces': WHATEVER THE INPUT: true; the input reads as it did. -/
def safePlacesSpec : ChangeSpec := { name := "safePlaces", fn := fun _ => fun
  | [d1, d2, d3, d4] => { results := [.lit (.bool true)], args := [d1, d2, d3, d4] }
  | _ => none }
def safePlacesRow : OpenClaim := { program := "ytnmpgijiimglcaagreat", sum := "eadcc444539f42c21bf30da5bfd392e55d8fdde03484910a82689f379b9cd158", func := "gnomon/gnomonlaw17.SafePlaces", spec := "safePlaces", unfollowed := true, recurses := true, apart := false }
def SafePlacesSaid : Prop := safePlacesRow.holds Tryz.pinned (OpenSpec.ofChange safePlacesSpec)

/-- ITS FALSE NEIGHBOUR: 'it returns false'. Refute it at one input. -/
def safePlacesWrong : ChangeSpec := { name := "safePlaces", fn := fun _ => fun
  | [d1, d2, d3, d4] => { results := [.lit (.bool false)], args := [d1, d2, d3, d4] }
  | _ => none }
def SafePlacesWrongFalsely : Prop := safePlacesRow.holds Tryz.pinned (OpenSpec.ofChange safePlacesWrong)

/-- 'gnomonlaw17.SafeSound': WHATEVER THE INPUT: true; the input reads as it did. -/
def safeSoundSpec : ChangeSpec := { name := "safeSound", fn := fun _ => fun
  | [d1, d2, d3, d4, d5] => { results := [.lit (.bool true)], args := [d1, d2, d3, d4, d5] }
  | _ => none }
def safeSoundRow : OpenClaim := { program := "ytnmpgijiimglcaagreat", sum := "eadcc444539f42c21bf30da5bfd392e55d8fdde03484910a82689f379b9cd158", func := "gnomon/gnomonlaw17.SafeSound", spec := "safeSound", inPlace := ["math/bits.Sub64"], unfollowed := true, recurses := true, apart := false }
def SafeSoundSaid : Prop := safeSoundRow.holds Tryz.pinned (OpenSpec.ofChange safeSoundSpec)

/-- ITS FALSE NEIGHBOUR: 'it returns false'. Refute it at one input. -/
def safeSoundWrong : ChangeSpec := { name := "safeSound", fn := fun _ => fun
  | [d1, d2, d3, d4, d5] => { results := [.lit (.bool false)], args := [d1, d2, d3, d4, d5] }
  | _ => none }
def SafeSoundWrongFalsely : Prop := safeSoundRow.holds Tryz.pinned (OpenSpec.ofChange safeSoundWrong)

/- THE SECOND FORM. 'bulk': how many values and letters a reading holds, each counted each time it is reached (what is shared counts as often as it is met; a slice's spare places count too). A statement '..UptoSaid' is the law's where the arguments, and the package variables that the reading takes, are together of bulk at most 1048576: NARROWER than '..Said'. Prove '..Said' where nothing that the law and all that it calls make is longer than what came in: it says more and counts as full. Else prove '..UptoSaid'. A law counts once. -/
mutual
def uptoBulk {H : Type} : DataW H → Nat
  | .lit (.string bytes) => bytes.length + 1
  | .lit _ => 1
  | .nil => 1
  | .ptr d => uptoBulk d + 1
  | .slice elems spare => uptoBulkAll elems + uptoBulkAll spare + 1
  | .agg parts => uptoBulkAll parts + 1
  | .iface _ d => uptoBulk d + 1
  | .map entries => uptoBulkEntries entries + 1
  | .held _ => 1
def uptoBulkAll {H : Type} : List (DataW H) → Nat
  | [] => 0
  | d :: r => uptoBulk d + uptoBulkAll r
def uptoBulkEntries {H : Type} : List (Lit × DataW H) → Nat
  | [] => 0
  | x :: r => uptoBulkEntry x + uptoBulkEntries r
def uptoBulkEntry {H : Type} : Lit × DataW H → Nat
  | (.string bytes, d) => bytes.length + uptoBulk d + 1
  | (_, d) => uptoBulk d + 1
 end
def uptoSmall : (H : Type) → List (DataW H) → Bool := fun _ ds => decide (uptoBulkAll ds ≤ 1048576)
def OpenSpec.upto (s : _root_.Go.ChangeSpec) : _root_.Go.OpenSpec := { _root_.Go.OpenSpec.ofChange s with cond := some uptoSmall }

/-- 'gnomonlaw16.TransAssumes', WHERE WHAT IT READS IS OF BULK AT MOST 1048576: true; the input reads as it did. -/
def transAssumesUptoRow : OpenClaim := { program := "ytnmpgijiimglcaagreat", sum := "eadcc444539f42c21bf30da5bfd392e55d8fdde03484910a82689f379b9cd158", func := "gnomon/gnomonlaw16.TransAssumes", spec := "transAssumes", unfollowed := true, recurses := true, apart := false, narrowed := true }
def TransAssumesUptoSaid : Prop := transAssumesUptoRow.holds Tryz.pinned (OpenSpec.upto transAssumesSpec)

/-- 'gnomonlaw16.TransSwap', WHERE WHAT IT READS IS OF BULK AT MOST 1048576: true; the input reads as it did. -/
def transSwapUptoRow : OpenClaim := { program := "ytnmpgijiimglcaagreat", sum := "eadcc444539f42c21bf30da5bfd392e55d8fdde03484910a82689f379b9cd158", func := "gnomon/gnomonlaw16.TransSwap", spec := "transSwap", unfollowed := true, recurses := true, apart := false, narrowed := true }
def TransSwapUptoSaid : Prop := transSwapUptoRow.holds Tryz.pinned (OpenSpec.upto transSwapSpec)

/-- 'gnomonlaw16.TransShift', WHERE WHAT IT READS IS OF BULK AT MOST 1048576: true; the input reads as it did. -/
def transShiftUptoRow : OpenClaim := { program := "ytnmpgijiimglcaagreat", sum := "eadcc444539f42c21bf30da5bfd392e55d8fdde03484910a82689f379b9cd158", func := "gnomon/gnomonlaw16.TransShift", spec := "transShift", unfollowed := true, recurses := true, apart := false, narrowed := true }
def TransShiftUptoSaid : Prop := transShiftUptoRow.holds Tryz.pinned (OpenSpec.upto transShiftSpec)

/-- 'gnomonlaw16.TransGives', WHERE WHAT IT READS IS OF BULK AT MOST 1048576: true; the input reads as it did. -/
def transGivesUptoRow : OpenClaim := { program := "ytnmpgijiimglcaagreat", sum := "eadcc444539f42c21bf30da5bfd392e55d8fdde03484910a82689f379b9cd158", func := "gnomon/gnomonlaw16.TransGives", spec := "transGives", unfollowed := true, recurses := true, apart := false, narrowed := true }
def TransGivesUptoSaid : Prop := transGivesUptoRow.holds Tryz.pinned (OpenSpec.upto transGivesSpec)

/-- 'gnomonlaw16.TransExact', WHERE WHAT IT READS IS OF BULK AT MOST 1048576: true; the input reads as it did. -/
def transExactUptoRow : OpenClaim := { program := "ytnmpgijiimglcaagreat", sum := "eadcc444539f42c21bf30da5bfd392e55d8fdde03484910a82689f379b9cd158", func := "gnomon/gnomonlaw16.TransExact", spec := "transExact", unfollowed := true, recurses := true, apart := false, narrowed := true }
def TransExactUptoSaid : Prop := transExactUptoRow.holds Tryz.pinned (OpenSpec.upto transExactSpec)

/-- 'gnomonlaw16.TransLine', WHERE WHAT IT READS IS OF BULK AT MOST 1048576: true; the input reads as it did. -/
def transLineUptoRow : OpenClaim := { program := "ytnmpgijiimglcaagreat", sum := "eadcc444539f42c21bf30da5bfd392e55d8fdde03484910a82689f379b9cd158", func := "gnomon/gnomonlaw16.TransLine", spec := "transLine", unfollowed := true, recurses := true, apart := false, narrowed := true }
def TransLineUptoSaid : Prop := transLineUptoRow.holds Tryz.pinned (OpenSpec.upto transLineSpec)

/-- 'gnomonlaw16.TransTight', WHERE WHAT IT READS IS OF BULK AT MOST 1048576: true; the input reads as it did. -/
def transTightUptoRow : OpenClaim := { program := "ytnmpgijiimglcaagreat", sum := "eadcc444539f42c21bf30da5bfd392e55d8fdde03484910a82689f379b9cd158", func := "gnomon/gnomonlaw16.TransTight", spec := "transTight", unfollowed := true, recurses := true, apart := false, narrowed := true }
def TransTightUptoSaid : Prop := transTightUptoRow.holds Tryz.pinned (OpenSpec.upto transTightSpec)

/-- 'gnomonlaw16.TransSound', WHERE WHAT IT READS IS OF BULK AT MOST 1048576: true; the input reads as it did. -/
def transSoundUptoRow : OpenClaim := { program := "ytnmpgijiimglcaagreat", sum := "eadcc444539f42c21bf30da5bfd392e55d8fdde03484910a82689f379b9cd158", func := "gnomon/gnomonlaw16.TransSound", spec := "transSound", inPlace := ["math/bits.Sub64"], unfollowed := true, recurses := true, apart := false, narrowed := true }
def TransSoundUptoSaid : Prop := transSoundUptoRow.holds Tryz.pinned (OpenSpec.upto transSoundSpec)

/-- 'gnomonlaw16.TransFewer', WHERE WHAT IT READS IS OF BULK AT MOST 1048576: true; the input reads as it did. -/
def transFewerUptoRow : OpenClaim := { program := "ytnmpgijiimglcaagreat", sum := "eadcc444539f42c21bf30da5bfd392e55d8fdde03484910a82689f379b9cd158", func := "gnomon/gnomonlaw16.TransFewer", spec := "transFewer", inPlace := ["math/bits.Sub64"], unfollowed := true, recurses := true, apart := false, narrowed := true }
def TransFewerUptoSaid : Prop := transFewerUptoRow.holds Tryz.pinned (OpenSpec.upto transFewerSpec)

/-- 'gnomonlaw17.SafeExact', WHERE WHAT IT READS IS OF BULK AT MOST 1048576: true; the input reads as it did. -/
def safeExactUptoRow : OpenClaim := { program := "ytnmpgijiimglcaagreat", sum := "eadcc444539f42c21bf30da5bfd392e55d8fdde03484910a82689f379b9cd158", func := "gnomon/gnomonlaw17.SafeExact", spec := "safeExact", unfollowed := true, recurses := true, apart := false, narrowed := true }
def SafeExactUptoSaid : Prop := safeExactUptoRow.holds Tryz.pinned (OpenSpec.upto safeExactSpec)

/-- 'gnomonlaw17.SafeFits', WHERE WHAT IT READS IS OF BULK AT MOST 1048576: true; the input reads as it did. -/
def safeFitsUptoRow : OpenClaim := { program := "ytnmpgijiimglcaagreat", sum := "eadcc444539f42c21bf30da5bfd392e55d8fdde03484910a82689f379b9cd158", func := "gnomon/gnomonlaw17.SafeFits", spec := "safeFits", unfollowed := true, recurses := true, apart := false, narrowed := true }
def SafeFitsUptoSaid : Prop := safeFitsUptoRow.holds Tryz.pinned (OpenSpec.upto safeFitsSpec)

/-- 'gnomonlaw17.SafeRanges', WHERE WHAT IT READS IS OF BULK AT MOST 1048576: true; the input reads as it did. -/
def safeRangesUptoRow : OpenClaim := { program := "ytnmpgijiimglcaagreat", sum := "eadcc444539f42c21bf30da5bfd392e55d8fdde03484910a82689f379b9cd158", func := "gnomon/gnomonlaw17.SafeRanges", spec := "safeRanges", unfollowed := true, recurses := true, apart := false, narrowed := true }
def SafeRangesUptoSaid : Prop := safeRangesUptoRow.holds Tryz.pinned (OpenSpec.upto safeRangesSpec)

/-- 'gnomonlaw17.SafeStays', WHERE WHAT IT READS IS OF BULK AT MOST 1048576: true; the input reads as it did. -/
def safeStaysUptoRow : OpenClaim := { program := "ytnmpgijiimglcaagreat", sum := "eadcc444539f42c21bf30da5bfd392e55d8fdde03484910a82689f379b9cd158", func := "gnomon/gnomonlaw17.SafeStays", spec := "safeStays", unfollowed := true, recurses := true, apart := false, narrowed := true }
def SafeStaysUptoSaid : Prop := safeStaysUptoRow.holds Tryz.pinned (OpenSpec.upto safeStaysSpec)

/-- 'gnomonlaw17.SafeSums', WHERE WHAT IT READS IS OF BULK AT MOST 1048576: true; the input reads as it did. -/
def safeSumsUptoRow : OpenClaim := { program := "ytnmpgijiimglcaagreat", sum := "eadcc444539f42c21bf30da5bfd392e55d8fdde03484910a82689f379b9cd158", func := "gnomon/gnomonlaw17.SafeSums", spec := "safeSums", unfollowed := true, recurses := true, apart := false, narrowed := true }
def SafeSumsUptoSaid : Prop := safeSumsUptoRow.holds Tryz.pinned (OpenSpec.upto safeSumsSpec)

/-- 'gnomonlaw17.SafePlaces', WHERE WHAT IT READS IS OF BULK AT MOST 1048576: true; the input reads as it did. -/
def safePlacesUptoRow : OpenClaim := { program := "ytnmpgijiimglcaagreat", sum := "eadcc444539f42c21bf30da5bfd392e55d8fdde03484910a82689f379b9cd158", func := "gnomon/gnomonlaw17.SafePlaces", spec := "safePlaces", unfollowed := true, recurses := true, apart := false, narrowed := true }
def SafePlacesUptoSaid : Prop := safePlacesUptoRow.holds Tryz.pinned (OpenSpec.upto safePlacesSpec)

/-- 'gnomonlaw17.SafeSound', WHERE WHAT IT READS IS OF BULK AT MOST 1048576: true; the input reads as it did. -/
def safeSoundUptoRow : OpenClaim := { program := "ytnmpgijiimglcaagreat", sum := "eadcc444539f42c21bf30da5bfd392e55d8fdde03484910a82689f379b9cd158", func := "gnomon/gnomonlaw17.SafeSound", spec := "safeSound", inPlace := ["math/bits.Sub64"], unfollowed := true, recurses := true, apart := false, narrowed := true }
def SafeSoundUptoSaid : Prop := safeSoundUptoRow.holds Tryz.pinned (OpenSpec.upto safeSoundSpec)

end Rows
end Go.Proofs.YtnmpgijiimglcaaGreat
