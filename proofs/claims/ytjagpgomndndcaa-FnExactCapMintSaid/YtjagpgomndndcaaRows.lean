/-
  No cell of these rows narrows 'for every input' (looked for: loops, veiled, ifaces, maps, wideKeys, modest, calm, conditions, laid).
  DERIVED. THE GIVEN ROWS OF THIS SEAT. 17 by the template 'for every input the law returns true; each argument reads behind the call as it read before'; 0 by the template 'total and deterministic' (their statements: YtjagpgomndndcaaTotals.lean).
  GIVEN WITH THE SEED: the statements are not yours to turn. If you find one false, say at which input.
  Laid BY PROGRAM, IN A SANDBOX (cutbox-rows.mjs): the forced cells as the released guide's own fill.sh prints them over the translation 292e4c116fd7f986… (all of the seat's roots in one cut). By AI agents, Wed Nov 11 2026. No macro, syntax, notation, axiom, sorry.
-/
import Derived.Test.YtjagpgomndndcaaChecked
import GoSem.Claim
import GoSem.ClaimJoined
import GoSem.ClaimMapViews
import Derived.JoinedTies
import Derived.KernelRfl
namespace Go.Proofs.Ytjagpgomndndcaa
/- THE CELL 'sum', in the pinned program and in every row, IS THE sha256 OF THE DUMP (.gsa) THAT YtjagpgomndndcaaProg.lean LOADS. Nothing in Lean hashes anything: it is a label: what it is worth is what the hold of that sum in a sandbox is worth. -/
noncomputable def Try.pinned : Pinned := { name := "ytjagpgomndndcaa", sum := "292e4c116fd7f986b4d5e88d86c35914ac6c6165741866a4ad5b34d16cc227cd", checked := Try.checked }
namespace Rows
def none {H : Type} : Left H := { results := [], args := [] }

/-- 'laws.FnExactConstants': WHATEVER THE INPUT: true; the input reads as it did. -/
def fnExactConstantsSpec : ChangeSpec := { name := "fnExactConstants", fn := fun _ => fun
  | [] => { results := [.lit (.bool true)], args := [] }
  | _ => none }
def fnExactConstantsRow : OpenClaim := { program := "ytjagpgomndndcaa", sum := "292e4c116fd7f986b4d5e88d86c35914ac6c6165741866a4ad5b34d16cc227cd", func := "loop.example/donjon/laws.FnExactConstants", spec := "fnExactConstants", apart := false }
def FnExactConstantsSaid : Prop := fnExactConstantsRow.holds Try.pinned (OpenSpec.ofChange fnExactConstantsSpec)

/-- ITS FALSE NEIGHBOUR: 'it returns false'. Refute it at one input. -/
def fnExactConstantsWrong : ChangeSpec := { name := "fnExactConstants", fn := fun _ => fun
  | [] => { results := [.lit (.bool false)], args := [] }
  | _ => none }
def FnExactConstantsWrongFalsely : Prop := fnExactConstantsRow.holds Try.pinned (OpenSpec.ofChange fnExactConstantsWrong)

/-- 'laws.FnExactWordAligned': WHATEVER THE INPUT: true; the input reads as it did. -/
def fnExactWordAlignedSpec : ChangeSpec := { name := "fnExactWordAligned", fn := fun _ => fun
  | [d1, d2] => { results := [.lit (.bool true)], args := [d1, d2] }
  | _ => none }
def fnExactWordAlignedRow : OpenClaim := { program := "ytjagpgomndndcaa", sum := "292e4c116fd7f986b4d5e88d86c35914ac6c6165741866a4ad5b34d16cc227cd", func := "loop.example/donjon/laws.FnExactWordAligned", spec := "fnExactWordAligned", apart := false }
def FnExactWordAlignedSaid : Prop := fnExactWordAlignedRow.holds Try.pinned (OpenSpec.ofChange fnExactWordAlignedSpec)

/-- ITS FALSE NEIGHBOUR: 'it returns false'. Refute it at one input. -/
def fnExactWordAlignedWrong : ChangeSpec := { name := "fnExactWordAligned", fn := fun _ => fun
  | [d1, d2] => { results := [.lit (.bool false)], args := [d1, d2] }
  | _ => none }
def FnExactWordAlignedWrongFalsely : Prop := fnExactWordAlignedRow.holds Try.pinned (OpenSpec.ofChange fnExactWordAlignedWrong)

/-- 'laws.FnExactWordIn': WHATEVER THE INPUT: true; the input reads as it did. -/
def fnExactWordInSpec : ChangeSpec := { name := "fnExactWordIn", fn := fun _ => fun
  | [d1, d2, d3, d4] => { results := [.lit (.bool true)], args := [d1, d2, d3, d4] }
  | _ => none }
def fnExactWordInRow : OpenClaim := { program := "ytjagpgomndndcaa", sum := "292e4c116fd7f986b4d5e88d86c35914ac6c6165741866a4ad5b34d16cc227cd", func := "loop.example/donjon/laws.FnExactWordIn", spec := "fnExactWordIn", apart := false }
def FnExactWordInSaid : Prop := fnExactWordInRow.holds Try.pinned (OpenSpec.ofChange fnExactWordInSpec)

/-- ITS FALSE NEIGHBOUR: 'it returns false'. Refute it at one input. -/
def fnExactWordInWrong : ChangeSpec := { name := "fnExactWordIn", fn := fun _ => fun
  | [d1, d2, d3, d4] => { results := [.lit (.bool false)], args := [d1, d2, d3, d4] }
  | _ => none }
def FnExactWordInWrongFalsely : Prop := fnExactWordInRow.holds Try.pinned (OpenSpec.ofChange fnExactWordInWrong)

/-- 'laws.FnExactWordMeet': WHATEVER THE INPUT: true; the input reads as it did. -/
def fnExactWordMeetSpec : ChangeSpec := { name := "fnExactWordMeet", fn := fun _ => fun
  | [d1, d2, d3, d4] => { results := [.lit (.bool true)], args := [d1, d2, d3, d4] }
  | _ => none }
def fnExactWordMeetRow : OpenClaim := { program := "ytjagpgomndndcaa", sum := "292e4c116fd7f986b4d5e88d86c35914ac6c6165741866a4ad5b34d16cc227cd", func := "loop.example/donjon/laws.FnExactWordMeet", spec := "fnExactWordMeet", apart := false }
def FnExactWordMeetSaid : Prop := fnExactWordMeetRow.holds Try.pinned (OpenSpec.ofChange fnExactWordMeetSpec)

/-- ITS FALSE NEIGHBOUR: 'it returns false'. Refute it at one input. -/
def fnExactWordMeetWrong : ChangeSpec := { name := "fnExactWordMeet", fn := fun _ => fun
  | [d1, d2, d3, d4] => { results := [.lit (.bool false)], args := [d1, d2, d3, d4] }
  | _ => none }
def FnExactWordMeetWrongFalsely : Prop := fnExactWordMeetRow.holds Try.pinned (OpenSpec.ofChange fnExactWordMeetWrong)

/-- 'laws.FnExactWordSize': WHATEVER THE INPUT: true; the input reads as it did. -/
def fnExactWordSizeSpec : ChangeSpec := { name := "fnExactWordSize", fn := fun _ => fun
  | [d] => { results := [.lit (.bool true)], args := [d] }
  | _ => none }
def fnExactWordSizeRow : OpenClaim := { program := "ytjagpgomndndcaa", sum := "292e4c116fd7f986b4d5e88d86c35914ac6c6165741866a4ad5b34d16cc227cd", func := "loop.example/donjon/laws.FnExactWordSize", spec := "fnExactWordSize", apart := false }
def FnExactWordSizeSaid : Prop := fnExactWordSizeRow.holds Try.pinned (OpenSpec.ofChange fnExactWordSizeSpec)

/-- ITS FALSE NEIGHBOUR: 'it returns false'. Refute it at one input. -/
def fnExactWordSizeWrong : ChangeSpec := { name := "fnExactWordSize", fn := fun _ => fun
  | [d] => { results := [.lit (.bool false)], args := [d] }
  | _ => none }
def FnExactWordSizeWrongFalsely : Prop := fnExactWordSizeRow.holds Try.pinned (OpenSpec.ofChange fnExactWordSizeWrong)

/-- 'laws.FnExactLookRef': WHATEVER THE INPUT: true; the input reads as it did. -/
def fnExactLookRefSpec : ChangeSpec := { name := "fnExactLookRef", fn := fun _ => fun
  | [d1, d2] => { results := [.lit (.bool true)], args := [d1, d2] }
  | _ => none }
def fnExactLookRefRow : OpenClaim := { program := "ytjagpgomndndcaa", sum := "292e4c116fd7f986b4d5e88d86c35914ac6c6165741866a4ad5b34d16cc227cd", func := "loop.example/donjon/laws.FnExactLookRef", spec := "fnExactLookRef", apart := false }
def FnExactLookRefSaid : Prop := fnExactLookRefRow.holds Try.pinned (OpenSpec.ofChange fnExactLookRefSpec)

/-- ITS FALSE NEIGHBOUR: 'it returns false'. Refute it at one input. -/
def fnExactLookRefWrong : ChangeSpec := { name := "fnExactLookRef", fn := fun _ => fun
  | [d1, d2] => { results := [.lit (.bool false)], args := [d1, d2] }
  | _ => none }
def FnExactLookRefWrongFalsely : Prop := fnExactLookRefRow.holds Try.pinned (OpenSpec.ofChange fnExactLookRefWrong)

/-- 'laws.FnExactWordUp': WHATEVER THE INPUT: true; the input reads as it did. -/
def fnExactWordUpSpec : ChangeSpec := { name := "fnExactWordUp", fn := fun _ => fun
  | [d1, d2] => { results := [.lit (.bool true)], args := [d1, d2] }
  | _ => none }
def fnExactWordUpRow : OpenClaim := { program := "ytjagpgomndndcaa", sum := "292e4c116fd7f986b4d5e88d86c35914ac6c6165741866a4ad5b34d16cc227cd", func := "loop.example/donjon/laws.FnExactWordUp", spec := "fnExactWordUp", apart := false }
def FnExactWordUpSaid : Prop := fnExactWordUpRow.holds Try.pinned (OpenSpec.ofChange fnExactWordUpSpec)

/-- ITS FALSE NEIGHBOUR: 'it returns false'. Refute it at one input. -/
def fnExactWordUpWrong : ChangeSpec := { name := "fnExactWordUp", fn := fun _ => fun
  | [d1, d2] => { results := [.lit (.bool false)], args := [d1, d2] }
  | _ => none }
def FnExactWordUpWrongFalsely : Prop := fnExactWordUpRow.holds Try.pinned (OpenSpec.ofChange fnExactWordUpWrong)

/-- 'laws.FnExactCapMax': WHATEVER THE INPUT: true; the input reads as it did. -/
def fnExactCapMaxSpec : ChangeSpec := { name := "fnExactCapMax", fn := fun _ => fun
  | [d] => { results := [.lit (.bool true)], args := [d] }
  | _ => none }
def fnExactCapMaxRow : OpenClaim := { program := "ytjagpgomndndcaa", sum := "292e4c116fd7f986b4d5e88d86c35914ac6c6165741866a4ad5b34d16cc227cd", func := "loop.example/donjon/laws.FnExactCapMax", spec := "fnExactCapMax", apart := false }
def FnExactCapMaxSaid : Prop := fnExactCapMaxRow.holds Try.pinned (OpenSpec.ofChange fnExactCapMaxSpec)

/-- ITS FALSE NEIGHBOUR: 'it returns false'. Refute it at one input. -/
def fnExactCapMaxWrong : ChangeSpec := { name := "fnExactCapMax", fn := fun _ => fun
  | [d] => { results := [.lit (.bool false)], args := [d] }
  | _ => none }
def FnExactCapMaxWrongFalsely : Prop := fnExactCapMaxRow.holds Try.pinned (OpenSpec.ofChange fnExactCapMaxWrong)

/-- 'laws.FnExactCapSize': WHATEVER THE INPUT: true; the input reads as it did. -/
def fnExactCapSizeSpec : ChangeSpec := { name := "fnExactCapSize", fn := fun _ => fun
  | [d1, d2] => { results := [.lit (.bool true)], args := [d1, d2] }
  | _ => none }
def fnExactCapSizeRow : OpenClaim := { program := "ytjagpgomndndcaa", sum := "292e4c116fd7f986b4d5e88d86c35914ac6c6165741866a4ad5b34d16cc227cd", func := "loop.example/donjon/laws.FnExactCapSize", spec := "fnExactCapSize", apart := false }
def FnExactCapSizeSaid : Prop := fnExactCapSizeRow.holds Try.pinned (OpenSpec.ofChange fnExactCapSizeSpec)

/-- ITS FALSE NEIGHBOUR: 'it returns false'. Refute it at one input. -/
def fnExactCapSizeWrong : ChangeSpec := { name := "fnExactCapSize", fn := fun _ => fun
  | [d1, d2] => { results := [.lit (.bool false)], args := [d1, d2] }
  | _ => none }
def FnExactCapSizeWrongFalsely : Prop := fnExactCapSizeRow.holds Try.pinned (OpenSpec.ofChange fnExactCapSizeWrong)

/-- 'laws.FnRange': WHATEVER THE INPUT: true; the input reads as it did. -/
def fnRangeSpec : ChangeSpec := { name := "fnRange", fn := fun _ => fun
  | [d] => { results := [.lit (.bool true)], args := [d] }
  | _ => none }
def fnRangeRow : OpenClaim := { program := "ytjagpgomndndcaa", sum := "292e4c116fd7f986b4d5e88d86c35914ac6c6165741866a4ad5b34d16cc227cd", func := "loop.example/donjon/laws.FnRange", spec := "fnRange", apart := false }
def FnRangeSaid : Prop := fnRangeRow.holds Try.pinned (OpenSpec.ofChange fnRangeSpec)

/-- ITS FALSE NEIGHBOUR: 'it returns false'. Refute it at one input. -/
def fnRangeWrong : ChangeSpec := { name := "fnRange", fn := fun _ => fun
  | [d] => { results := [.lit (.bool false)], args := [d] }
  | _ => none }
def FnRangeWrongFalsely : Prop := fnRangeRow.holds Try.pinned (OpenSpec.ofChange fnRangeWrong)

/-- 'laws.FnExactCapOk': WHATEVER THE INPUT: true; the input reads as it did. -/
def fnExactCapOkSpec : ChangeSpec := { name := "fnExactCapOk", fn := fun _ => fun
  | [d] => { results := [.lit (.bool true)], args := [d] }
  | _ => none }
def fnExactCapOkRow : OpenClaim := { program := "ytjagpgomndndcaa", sum := "292e4c116fd7f986b4d5e88d86c35914ac6c6165741866a4ad5b34d16cc227cd", func := "loop.example/donjon/laws.FnExactCapOk", spec := "fnExactCapOk", apart := false }
def FnExactCapOkSaid : Prop := fnExactCapOkRow.holds Try.pinned (OpenSpec.ofChange fnExactCapOkSpec)

/-- ITS FALSE NEIGHBOUR: 'it returns false'. Refute it at one input. -/
def fnExactCapOkWrong : ChangeSpec := { name := "fnExactCapOk", fn := fun _ => fun
  | [d] => { results := [.lit (.bool false)], args := [d] }
  | _ => none }
def FnExactCapOkWrongFalsely : Prop := fnExactCapOkRow.holds Try.pinned (OpenSpec.ofChange fnExactCapOkWrong)

/-- 'laws.FnExactCapBelow': WHATEVER THE INPUT: true; the input reads as it did. -/
def fnExactCapBelowSpec : ChangeSpec := { name := "fnExactCapBelow", fn := fun _ => fun
  | [d1, d2] => { results := [.lit (.bool true)], args := [d1, d2] }
  | _ => none }
def fnExactCapBelowRow : OpenClaim := { program := "ytjagpgomndndcaa", sum := "292e4c116fd7f986b4d5e88d86c35914ac6c6165741866a4ad5b34d16cc227cd", func := "loop.example/donjon/laws.FnExactCapBelow", spec := "fnExactCapBelow", apart := false }
def FnExactCapBelowSaid : Prop := fnExactCapBelowRow.holds Try.pinned (OpenSpec.ofChange fnExactCapBelowSpec)

/-- ITS FALSE NEIGHBOUR: 'it returns false'. Refute it at one input. -/
def fnExactCapBelowWrong : ChangeSpec := { name := "fnExactCapBelow", fn := fun _ => fun
  | [d1, d2] => { results := [.lit (.bool false)], args := [d1, d2] }
  | _ => none }
def FnExactCapBelowWrongFalsely : Prop := fnExactCapBelowRow.holds Try.pinned (OpenSpec.ofChange fnExactCapBelowWrong)

/-- 'laws.FnExactCapPack': WHATEVER THE INPUT: true; the input reads as it did. -/
def fnExactCapPackSpec : ChangeSpec := { name := "fnExactCapPack", fn := fun _ => fun
  | [d] => { results := [.lit (.bool true)], args := [d] }
  | _ => none }
def fnExactCapPackRow : OpenClaim := { program := "ytjagpgomndndcaa", sum := "292e4c116fd7f986b4d5e88d86c35914ac6c6165741866a4ad5b34d16cc227cd", func := "loop.example/donjon/laws.FnExactCapPack", spec := "fnExactCapPack", apart := false }
def FnExactCapPackSaid : Prop := fnExactCapPackRow.holds Try.pinned (OpenSpec.ofChange fnExactCapPackSpec)

/-- ITS FALSE NEIGHBOUR: 'it returns false'. Refute it at one input. -/
def fnExactCapPackWrong : ChangeSpec := { name := "fnExactCapPack", fn := fun _ => fun
  | [d] => { results := [.lit (.bool false)], args := [d] }
  | _ => none }
def FnExactCapPackWrongFalsely : Prop := fnExactCapPackRow.holds Try.pinned (OpenSpec.ofChange fnExactCapPackWrong)

/-- 'laws.FnExactCapCopy': WHATEVER THE INPUT: true; the input reads as it did. -/
def fnExactCapCopySpec : ChangeSpec := { name := "fnExactCapCopy", fn := fun _ => fun
  | [d1, d2] => { results := [.lit (.bool true)], args := [d1, d2] }
  | _ => none }
def fnExactCapCopyRow : OpenClaim := { program := "ytjagpgomndndcaa", sum := "292e4c116fd7f986b4d5e88d86c35914ac6c6165741866a4ad5b34d16cc227cd", func := "loop.example/donjon/laws.FnExactCapCopy", spec := "fnExactCapCopy", apart := false }
def FnExactCapCopySaid : Prop := fnExactCapCopyRow.holds Try.pinned (OpenSpec.ofChange fnExactCapCopySpec)

/-- ITS FALSE NEIGHBOUR: 'it returns false'. Refute it at one input. -/
def fnExactCapCopyWrong : ChangeSpec := { name := "fnExactCapCopy", fn := fun _ => fun
  | [d1, d2] => { results := [.lit (.bool false)], args := [d1, d2] }
  | _ => none }
def FnExactCapCopyWrongFalsely : Prop := fnExactCapCopyRow.holds Try.pinned (OpenSpec.ofChange fnExactCapCopyWrong)

/-- 'laws.FnExactCapUnpack': WHATEVER THE INPUT: true; the input reads as it did. -/
def fnExactCapUnpackSpec : ChangeSpec := { name := "fnExactCapUnpack", fn := fun _ => fun
  | [d1, d2] => { results := [.lit (.bool true)], args := [d1, d2] }
  | _ => none }
def fnExactCapUnpackRow : OpenClaim := { program := "ytjagpgomndndcaa", sum := "292e4c116fd7f986b4d5e88d86c35914ac6c6165741866a4ad5b34d16cc227cd", func := "loop.example/donjon/laws.FnExactCapUnpack", spec := "fnExactCapUnpack", apart := false }
def FnExactCapUnpackSaid : Prop := fnExactCapUnpackRow.holds Try.pinned (OpenSpec.ofChange fnExactCapUnpackSpec)

/-- ITS FALSE NEIGHBOUR: 'it returns false'. Refute it at one input. -/
def fnExactCapUnpackWrong : ChangeSpec := { name := "fnExactCapUnpack", fn := fun _ => fun
  | [d1, d2] => { results := [.lit (.bool false)], args := [d1, d2] }
  | _ => none }
def FnExactCapUnpackWrongFalsely : Prop := fnExactCapUnpackRow.holds Try.pinned (OpenSpec.ofChange fnExactCapUnpackWrong)

/-- 'laws.FnExactCapMint': WHATEVER THE INPUT: true; the input reads as it did. -/
def fnExactCapMintSpec : ChangeSpec := { name := "fnExactCapMint", fn := fun _ => fun
  | [d1, d2, d3] => { results := [.lit (.bool true)], args := [d1, d2, d3] }
  | _ => none }
def fnExactCapMintRow : OpenClaim := { program := "ytjagpgomndndcaa", sum := "292e4c116fd7f986b4d5e88d86c35914ac6c6165741866a4ad5b34d16cc227cd", func := "loop.example/donjon/laws.FnExactCapMint", spec := "fnExactCapMint", apart := false }
def FnExactCapMintSaid : Prop := fnExactCapMintRow.holds Try.pinned (OpenSpec.ofChange fnExactCapMintSpec)

/-- ITS FALSE NEIGHBOUR: 'it returns false'. Refute it at one input. -/
def fnExactCapMintWrong : ChangeSpec := { name := "fnExactCapMint", fn := fun _ => fun
  | [d1, d2, d3] => { results := [.lit (.bool false)], args := [d1, d2, d3] }
  | _ => none }
def FnExactCapMintWrongFalsely : Prop := fnExactCapMintRow.holds Try.pinned (OpenSpec.ofChange fnExactCapMintWrong)

/-- 'laws.FnCapBelow': WHATEVER THE INPUT: true; the input reads as it did. -/
def fnCapBelowSpec : ChangeSpec := { name := "fnCapBelow", fn := fun _ => fun
  | [d1, d2] => { results := [.lit (.bool true)], args := [d1, d2] }
  | _ => none }
def fnCapBelowRow : OpenClaim := { program := "ytjagpgomndndcaa", sum := "292e4c116fd7f986b4d5e88d86c35914ac6c6165741866a4ad5b34d16cc227cd", func := "loop.example/donjon/laws.FnCapBelow", spec := "fnCapBelow", apart := false }
def FnCapBelowSaid : Prop := fnCapBelowRow.holds Try.pinned (OpenSpec.ofChange fnCapBelowSpec)

/-- ITS FALSE NEIGHBOUR: 'it returns false'. Refute it at one input. -/
def fnCapBelowWrong : ChangeSpec := { name := "fnCapBelow", fn := fun _ => fun
  | [d1, d2] => { results := [.lit (.bool false)], args := [d1, d2] }
  | _ => none }
def FnCapBelowWrongFalsely : Prop := fnCapBelowRow.holds Try.pinned (OpenSpec.ofChange fnCapBelowWrong)

/- THE SECOND FORM. 'bulk': how many values and letters a reading holds, each counted each time it is reached (what is shared counts as often as it is met; a slice's spare places count too). A statement '..UptoSaid' is the law's where the arguments, and the package variables that the reading takes, are together of bulk at most 1048576: NARROWER than '..Said'. Prove '..Said' where nothing that the law and all that it calls make is longer than what came in: it says more and counts as full. Else prove '..UptoSaid'. A law counts once. -/
mutual
def uptoBulk {H : Type} : DataW H → Nat
  | .lit (.string bytes) => bytes.length + 1
  | .lit _ => 1
  | .nil => 1
  | .ptr d => uptoBulk d + 1
  | .slice elems spare => uptoBulkAll elems + uptoBulkAll spare + 1
  | .agg parts => uptoBulkAll parts + 1
  | .iface _ d => uptoBulk d + 1
  | .map entries => uptoBulkEntries entries + 1
  | .held _ => 1
def uptoBulkAll {H : Type} : List (DataW H) → Nat
  | [] => 0
  | d :: r => uptoBulk d + uptoBulkAll r
def uptoBulkEntries {H : Type} : List (Lit × DataW H) → Nat
  | [] => 0
  | x :: r => uptoBulkEntry x + uptoBulkEntries r
def uptoBulkEntry {H : Type} : Lit × DataW H → Nat
  | (.string bytes, d) => bytes.length + uptoBulk d + 1
  | (_, d) => uptoBulk d + 1
 end
def uptoSmall : (H : Type) → List (DataW H) → Bool := fun _ ds => decide (uptoBulkAll ds ≤ 1048576)
def OpenSpec.upto (s : _root_.Go.ChangeSpec) : _root_.Go.OpenSpec := { _root_.Go.OpenSpec.ofChange s with cond := some uptoSmall }

/-- 'laws.FnExactConstants', WHERE WHAT IT READS IS OF BULK AT MOST 1048576: true; the input reads as it did. -/
def fnExactConstantsUptoRow : OpenClaim := { program := "ytjagpgomndndcaa", sum := "292e4c116fd7f986b4d5e88d86c35914ac6c6165741866a4ad5b34d16cc227cd", func := "loop.example/donjon/laws.FnExactConstants", spec := "fnExactConstants", apart := false, narrowed := true }
def FnExactConstantsUptoSaid : Prop := fnExactConstantsUptoRow.holds Try.pinned (OpenSpec.upto fnExactConstantsSpec)

/-- 'laws.FnExactWordAligned', WHERE WHAT IT READS IS OF BULK AT MOST 1048576: true; the input reads as it did. -/
def fnExactWordAlignedUptoRow : OpenClaim := { program := "ytjagpgomndndcaa", sum := "292e4c116fd7f986b4d5e88d86c35914ac6c6165741866a4ad5b34d16cc227cd", func := "loop.example/donjon/laws.FnExactWordAligned", spec := "fnExactWordAligned", apart := false, narrowed := true }
def FnExactWordAlignedUptoSaid : Prop := fnExactWordAlignedUptoRow.holds Try.pinned (OpenSpec.upto fnExactWordAlignedSpec)

/-- 'laws.FnExactWordIn', WHERE WHAT IT READS IS OF BULK AT MOST 1048576: true; the input reads as it did. -/
def fnExactWordInUptoRow : OpenClaim := { program := "ytjagpgomndndcaa", sum := "292e4c116fd7f986b4d5e88d86c35914ac6c6165741866a4ad5b34d16cc227cd", func := "loop.example/donjon/laws.FnExactWordIn", spec := "fnExactWordIn", apart := false, narrowed := true }
def FnExactWordInUptoSaid : Prop := fnExactWordInUptoRow.holds Try.pinned (OpenSpec.upto fnExactWordInSpec)

/-- 'laws.FnExactWordMeet', WHERE WHAT IT READS IS OF BULK AT MOST 1048576: true; the input reads as it did. -/
def fnExactWordMeetUptoRow : OpenClaim := { program := "ytjagpgomndndcaa", sum := "292e4c116fd7f986b4d5e88d86c35914ac6c6165741866a4ad5b34d16cc227cd", func := "loop.example/donjon/laws.FnExactWordMeet", spec := "fnExactWordMeet", apart := false, narrowed := true }
def FnExactWordMeetUptoSaid : Prop := fnExactWordMeetUptoRow.holds Try.pinned (OpenSpec.upto fnExactWordMeetSpec)

/-- 'laws.FnExactWordSize', WHERE WHAT IT READS IS OF BULK AT MOST 1048576: true; the input reads as it did. -/
def fnExactWordSizeUptoRow : OpenClaim := { program := "ytjagpgomndndcaa", sum := "292e4c116fd7f986b4d5e88d86c35914ac6c6165741866a4ad5b34d16cc227cd", func := "loop.example/donjon/laws.FnExactWordSize", spec := "fnExactWordSize", apart := false, narrowed := true }
def FnExactWordSizeUptoSaid : Prop := fnExactWordSizeUptoRow.holds Try.pinned (OpenSpec.upto fnExactWordSizeSpec)

/-- 'laws.FnExactLookRef', WHERE WHAT IT READS IS OF BULK AT MOST 1048576: true; the input reads as it did. -/
def fnExactLookRefUptoRow : OpenClaim := { program := "ytjagpgomndndcaa", sum := "292e4c116fd7f986b4d5e88d86c35914ac6c6165741866a4ad5b34d16cc227cd", func := "loop.example/donjon/laws.FnExactLookRef", spec := "fnExactLookRef", apart := false, narrowed := true }
def FnExactLookRefUptoSaid : Prop := fnExactLookRefUptoRow.holds Try.pinned (OpenSpec.upto fnExactLookRefSpec)

/-- 'laws.FnExactWordUp', WHERE WHAT IT READS IS OF BULK AT MOST 1048576: true; the input reads as it did. -/
def fnExactWordUpUptoRow : OpenClaim := { program := "ytjagpgomndndcaa", sum := "292e4c116fd7f986b4d5e88d86c35914ac6c6165741866a4ad5b34d16cc227cd", func := "loop.example/donjon/laws.FnExactWordUp", spec := "fnExactWordUp", apart := false, narrowed := true }
def FnExactWordUpUptoSaid : Prop := fnExactWordUpUptoRow.holds Try.pinned (OpenSpec.upto fnExactWordUpSpec)

/-- 'laws.FnExactCapMax', WHERE WHAT IT READS IS OF BULK AT MOST 1048576: true; the input reads as it did. -/
def fnExactCapMaxUptoRow : OpenClaim := { program := "ytjagpgomndndcaa", sum := "292e4c116fd7f986b4d5e88d86c35914ac6c6165741866a4ad5b34d16cc227cd", func := "loop.example/donjon/laws.FnExactCapMax", spec := "fnExactCapMax", apart := false, narrowed := true }
def FnExactCapMaxUptoSaid : Prop := fnExactCapMaxUptoRow.holds Try.pinned (OpenSpec.upto fnExactCapMaxSpec)

/-- 'laws.FnExactCapSize', WHERE WHAT IT READS IS OF BULK AT MOST 1048576: true; the input reads as it did. -/
def fnExactCapSizeUptoRow : OpenClaim := { program := "ytjagpgomndndcaa", sum := "292e4c116fd7f986b4d5e88d86c35914ac6c6165741866a4ad5b34d16cc227cd", func := "loop.example/donjon/laws.FnExactCapSize", spec := "fnExactCapSize", apart := false, narrowed := true }
def FnExactCapSizeUptoSaid : Prop := fnExactCapSizeUptoRow.holds Try.pinned (OpenSpec.upto fnExactCapSizeSpec)

/-- 'laws.FnRange', WHERE WHAT IT READS IS OF BULK AT MOST 1048576: true; the input reads as it did. -/
def fnRangeUptoRow : OpenClaim := { program := "ytjagpgomndndcaa", sum := "292e4c116fd7f986b4d5e88d86c35914ac6c6165741866a4ad5b34d16cc227cd", func := "loop.example/donjon/laws.FnRange", spec := "fnRange", apart := false, narrowed := true }
def FnRangeUptoSaid : Prop := fnRangeUptoRow.holds Try.pinned (OpenSpec.upto fnRangeSpec)

/-- 'laws.FnExactCapOk', WHERE WHAT IT READS IS OF BULK AT MOST 1048576: true; the input reads as it did. -/
def fnExactCapOkUptoRow : OpenClaim := { program := "ytjagpgomndndcaa", sum := "292e4c116fd7f986b4d5e88d86c35914ac6c6165741866a4ad5b34d16cc227cd", func := "loop.example/donjon/laws.FnExactCapOk", spec := "fnExactCapOk", apart := false, narrowed := true }
def FnExactCapOkUptoSaid : Prop := fnExactCapOkUptoRow.holds Try.pinned (OpenSpec.upto fnExactCapOkSpec)

/-- 'laws.FnExactCapBelow', WHERE WHAT IT READS IS OF BULK AT MOST 1048576: true; the input reads as it did. -/
def fnExactCapBelowUptoRow : OpenClaim := { program := "ytjagpgomndndcaa", sum := "292e4c116fd7f986b4d5e88d86c35914ac6c6165741866a4ad5b34d16cc227cd", func := "loop.example/donjon/laws.FnExactCapBelow", spec := "fnExactCapBelow", apart := false, narrowed := true }
def FnExactCapBelowUptoSaid : Prop := fnExactCapBelowUptoRow.holds Try.pinned (OpenSpec.upto fnExactCapBelowSpec)

/-- 'laws.FnExactCapPack', WHERE WHAT IT READS IS OF BULK AT MOST 1048576: true; the input reads as it did. -/
def fnExactCapPackUptoRow : OpenClaim := { program := "ytjagpgomndndcaa", sum := "292e4c116fd7f986b4d5e88d86c35914ac6c6165741866a4ad5b34d16cc227cd", func := "loop.example/donjon/laws.FnExactCapPack", spec := "fnExactCapPack", apart := false, narrowed := true }
def FnExactCapPackUptoSaid : Prop := fnExactCapPackUptoRow.holds Try.pinned (OpenSpec.upto fnExactCapPackSpec)

/-- 'laws.FnExactCapCopy', WHERE WHAT IT READS IS OF BULK AT MOST 1048576: true; the input reads as it did. -/
def fnExactCapCopyUptoRow : OpenClaim := { program := "ytjagpgomndndcaa", sum := "292e4c116fd7f986b4d5e88d86c35914ac6c6165741866a4ad5b34d16cc227cd", func := "loop.example/donjon/laws.FnExactCapCopy", spec := "fnExactCapCopy", apart := false, narrowed := true }
def FnExactCapCopyUptoSaid : Prop := fnExactCapCopyUptoRow.holds Try.pinned (OpenSpec.upto fnExactCapCopySpec)

/-- 'laws.FnExactCapUnpack', WHERE WHAT IT READS IS OF BULK AT MOST 1048576: true; the input reads as it did. -/
def fnExactCapUnpackUptoRow : OpenClaim := { program := "ytjagpgomndndcaa", sum := "292e4c116fd7f986b4d5e88d86c35914ac6c6165741866a4ad5b34d16cc227cd", func := "loop.example/donjon/laws.FnExactCapUnpack", spec := "fnExactCapUnpack", apart := false, narrowed := true }
def FnExactCapUnpackUptoSaid : Prop := fnExactCapUnpackUptoRow.holds Try.pinned (OpenSpec.upto fnExactCapUnpackSpec)

/-- 'laws.FnExactCapMint', WHERE WHAT IT READS IS OF BULK AT MOST 1048576: true; the input reads as it did. -/
def fnExactCapMintUptoRow : OpenClaim := { program := "ytjagpgomndndcaa", sum := "292e4c116fd7f986b4d5e88d86c35914ac6c6165741866a4ad5b34d16cc227cd", func := "loop.example/donjon/laws.FnExactCapMint", spec := "fnExactCapMint", apart := false, narrowed := true }
def FnExactCapMintUptoSaid : Prop := fnExactCapMintUptoRow.holds Try.pinned (OpenSpec.upto fnExactCapMintSpec)

/-- 'laws.FnCapBelow', WHERE WHAT IT READS IS OF BULK AT MOST 1048576: true; the input reads as it did. -/
def fnCapBelowUptoRow : OpenClaim := { program := "ytjagpgomndndcaa", sum := "292e4c116fd7f986b4d5e88d86c35914ac6c6165741866a4ad5b34d16cc227cd", func := "loop.example/donjon/laws.FnCapBelow", spec := "fnCapBelow", apart := false, narrowed := true }
def FnCapBelowUptoSaid : Prop := fnCapBelowUptoRow.holds Try.pinned (OpenSpec.upto fnCapBelowSpec)

end Rows
end Go.Proofs.Ytjagpgomndndcaa
