/-
  No cell of these rows narrows 'for every input' (looked for: loops, veiled, ifaces, maps, wideKeys, modest, calm, conditions, laid).
  DERIVED. THE GIVEN ROWS OF THIS SEAT. 14 by the template 'for every input the law returns true; each argument reads behind the call as it read before'; 0 by the template 'total and deterministic' (their statements: YtalfojoimnhmlaaTotals.lean).
  GIVEN WITH THE SEED: the statements are not yours to turn. If you find one false, say at which input.
  Laid BY PROGRAM, IN A SANDBOX (cutbox-rows.mjs): the forced cells as the released guide's own fill.sh prints them over the translation 844552902df8334f… (all of the seat's roots in one cut). By AI agents, Wed Nov 11 2026. No macro, syntax, notation, axiom, sorry.
-/
import Derived.Test.YtalfojoimnhmlaaChecked
import GoSem.Claim
import GoSem.ClaimJoined
import GoSem.ClaimMapViews
import Derived.JoinedTies
import Derived.KernelRfl
namespace Go.Proofs.Ytalfojoimnhmlaa
/- THE CELL 'sum', in the pinned program and in every row, IS THE sha256 OF THE DUMP (.gsa) THAT YtalfojoimnhmlaaProg.lean LOADS. Nothing in Lean hashes anything: it is a label: what it is worth is what the hold of that sum in a sandbox is worth. -/
noncomputable def Try.pinned : Pinned := { name := "ytalfojoimnhmlaa", sum := "844552902df8334f7753f2bfc1fc0153f08e8ce5edc5956eeca85bb6e57de17c", checked := Try.checked }
namespace Rows
def none {H : Type} : Left H := { results := [], args := [] }

/-- 'laws.FnExactTreeOk': WHATEVER THE INPUT: true; the input reads as it did. -/
def fnExactTreeOkSpec : ChangeSpec := { name := "fnExactTreeOk", fn := fun _ => fun
  | [d] => { results := [.lit (.bool true)], args := [d] }
  | _ => none }
def fnExactTreeOkRow : OpenClaim := { program := "ytalfojoimnhmlaa", sum := "844552902df8334f7753f2bfc1fc0153f08e8ce5edc5956eeca85bb6e57de17c", func := "loop.example/donjon/laws.FnExactTreeOk", spec := "fnExactTreeOk", apart := false }
def FnExactTreeOkSaid : Prop := fnExactTreeOkRow.holds Try.pinned (OpenSpec.ofChange fnExactTreeOkSpec)

/-- ITS FALSE NEIGHBOUR: 'it returns false'. Refute it at one input. -/
def fnExactTreeOkWrong : ChangeSpec := { name := "fnExactTreeOk", fn := fun _ => fun
  | [d] => { results := [.lit (.bool false)], args := [d] }
  | _ => none }
def FnExactTreeOkWrongFalsely : Prop := fnExactTreeOkRow.holds Try.pinned (OpenSpec.ofChange fnExactTreeOkWrong)

/-- 'laws.FnExactTreeFind': WHATEVER THE INPUT: true; the input reads as it did. -/
def fnExactTreeFindSpec : ChangeSpec := { name := "fnExactTreeFind", fn := fun _ => fun
  | [d1, d2] => { results := [.lit (.bool true)], args := [d1, d2] }
  | _ => none }
def fnExactTreeFindRow : OpenClaim := { program := "ytalfojoimnhmlaa", sum := "844552902df8334f7753f2bfc1fc0153f08e8ce5edc5956eeca85bb6e57de17c", func := "loop.example/donjon/laws.FnExactTreeFind", spec := "fnExactTreeFind", unfollowed := true, recurses := true, apart := false }
def FnExactTreeFindSaid : Prop := fnExactTreeFindRow.holds Try.pinned (OpenSpec.ofChange fnExactTreeFindSpec)

/-- ITS FALSE NEIGHBOUR: 'it returns false'. Refute it at one input. -/
def fnExactTreeFindWrong : ChangeSpec := { name := "fnExactTreeFind", fn := fun _ => fun
  | [d1, d2] => { results := [.lit (.bool false)], args := [d1, d2] }
  | _ => none }
def FnExactTreeFindWrongFalsely : Prop := fnExactTreeFindRow.holds Try.pinned (OpenSpec.ofChange fnExactTreeFindWrong)

/-- 'laws.FnExactTreeEnd': WHATEVER THE INPUT: true; the input reads as it did. -/
def fnExactTreeEndSpec : ChangeSpec := { name := "fnExactTreeEnd", fn := fun _ => fun
  | [d1, d2] => { results := [.lit (.bool true)], args := [d1, d2] }
  | _ => none }
def fnExactTreeEndRow : OpenClaim := { program := "ytalfojoimnhmlaa", sum := "844552902df8334f7753f2bfc1fc0153f08e8ce5edc5956eeca85bb6e57de17c", func := "loop.example/donjon/laws.FnExactTreeEnd", spec := "fnExactTreeEnd", apart := false }
def FnExactTreeEndSaid : Prop := fnExactTreeEndRow.holds Try.pinned (OpenSpec.ofChange fnExactTreeEndSpec)

/-- ITS FALSE NEIGHBOUR: 'it returns false'. Refute it at one input. -/
def fnExactTreeEndWrong : ChangeSpec := { name := "fnExactTreeEnd", fn := fun _ => fun
  | [d1, d2] => { results := [.lit (.bool false)], args := [d1, d2] }
  | _ => none }
def FnExactTreeEndWrongFalsely : Prop := fnExactTreeEndRow.holds Try.pinned (OpenSpec.ofChange fnExactTreeEndWrong)

/-- 'laws.FnExactTreeAbove': WHATEVER THE INPUT: true; the input reads as it did. -/
def fnExactTreeAboveSpec : ChangeSpec := { name := "fnExactTreeAbove", fn := fun _ => fun
  | [d1, d2, d3] => { results := [.lit (.bool true)], args := [d1, d2, d3] }
  | _ => none }
def fnExactTreeAboveRow : OpenClaim := { program := "ytalfojoimnhmlaa", sum := "844552902df8334f7753f2bfc1fc0153f08e8ce5edc5956eeca85bb6e57de17c", func := "loop.example/donjon/laws.FnExactTreeAbove", spec := "fnExactTreeAbove", apart := false }
def FnExactTreeAboveSaid : Prop := fnExactTreeAboveRow.holds Try.pinned (OpenSpec.ofChange fnExactTreeAboveSpec)

/-- ITS FALSE NEIGHBOUR: 'it returns false'. Refute it at one input. -/
def fnExactTreeAboveWrong : ChangeSpec := { name := "fnExactTreeAbove", fn := fun _ => fun
  | [d1, d2, d3] => { results := [.lit (.bool false)], args := [d1, d2, d3] }
  | _ => none }
def FnExactTreeAboveWrongFalsely : Prop := fnExactTreeAboveRow.holds Try.pinned (OpenSpec.ofChange fnExactTreeAboveWrong)

/-- 'laws.FnExactTreeUp': WHATEVER THE INPUT: true; the input reads as it did. -/
def fnExactTreeUpSpec : ChangeSpec := { name := "fnExactTreeUp", fn := fun _ => fun
  | [d1, d2] => { results := [.lit (.bool true)], args := [d1, d2] }
  | _ => none }
def fnExactTreeUpRow : OpenClaim := { program := "ytalfojoimnhmlaa", sum := "844552902df8334f7753f2bfc1fc0153f08e8ce5edc5956eeca85bb6e57de17c", func := "loop.example/donjon/laws.FnExactTreeUp", spec := "fnExactTreeUp", apart := false }
def FnExactTreeUpSaid : Prop := fnExactTreeUpRow.holds Try.pinned (OpenSpec.ofChange fnExactTreeUpSpec)

/-- ITS FALSE NEIGHBOUR: 'it returns false'. Refute it at one input. -/
def fnExactTreeUpWrong : ChangeSpec := { name := "fnExactTreeUp", fn := fun _ => fun
  | [d1, d2] => { results := [.lit (.bool false)], args := [d1, d2] }
  | _ => none }
def FnExactTreeUpWrongFalsely : Prop := fnExactTreeUpRow.holds Try.pinned (OpenSpec.ofChange fnExactTreeUpWrong)

/-- 'laws.FnExactTreeLeaf': WHATEVER THE INPUT: true; the input reads as it did. -/
def fnExactTreeLeafSpec : ChangeSpec := { name := "fnExactTreeLeaf", fn := fun _ => fun
  | [d1, d2] => { results := [.lit (.bool true)], args := [d1, d2] }
  | _ => none }
def fnExactTreeLeafRow : OpenClaim := { program := "ytalfojoimnhmlaa", sum := "844552902df8334f7753f2bfc1fc0153f08e8ce5edc5956eeca85bb6e57de17c", func := "loop.example/donjon/laws.FnExactTreeLeaf", spec := "fnExactTreeLeaf", apart := false }
def FnExactTreeLeafSaid : Prop := fnExactTreeLeafRow.holds Try.pinned (OpenSpec.ofChange fnExactTreeLeafSpec)

/-- ITS FALSE NEIGHBOUR: 'it returns false'. Refute it at one input. -/
def fnExactTreeLeafWrong : ChangeSpec := { name := "fnExactTreeLeaf", fn := fun _ => fun
  | [d1, d2] => { results := [.lit (.bool false)], args := [d1, d2] }
  | _ => none }
def FnExactTreeLeafWrongFalsely : Prop := fnExactTreeLeafRow.holds Try.pinned (OpenSpec.ofChange fnExactTreeLeafWrong)

/-- 'laws.FnExactBootOk': WHATEVER THE INPUT: true; the input reads as it did. -/
def fnExactBootOkSpec : ChangeSpec := { name := "fnExactBootOk", fn := fun _ => fun
  | [d] => { results := [.lit (.bool true)], args := [d] }
  | _ => none }
def fnExactBootOkRow : OpenClaim := { program := "ytalfojoimnhmlaa", sum := "844552902df8334f7753f2bfc1fc0153f08e8ce5edc5956eeca85bb6e57de17c", func := "loop.example/donjon/laws.FnExactBootOk", spec := "fnExactBootOk", apart := false }
def FnExactBootOkSaid : Prop := fnExactBootOkRow.holds Try.pinned (OpenSpec.ofChange fnExactBootOkSpec)

/-- ITS FALSE NEIGHBOUR: 'it returns false'. Refute it at one input. -/
def fnExactBootOkWrong : ChangeSpec := { name := "fnExactBootOk", fn := fun _ => fun
  | [d] => { results := [.lit (.bool false)], args := [d] }
  | _ => none }
def FnExactBootOkWrongFalsely : Prop := fnExactBootOkRow.holds Try.pinned (OpenSpec.ofChange fnExactBootOkWrong)

/-- 'laws.FnExactTreeCut': WHATEVER THE INPUT: true; the input reads as it did. -/
def fnExactTreeCutSpec : ChangeSpec := { name := "fnExactTreeCut", fn := fun _ => fun
  | [d1, d2] => { results := [.lit (.bool true)], args := [d1, d2] }
  | _ => none }
def fnExactTreeCutRow : OpenClaim := { program := "ytalfojoimnhmlaa", sum := "844552902df8334f7753f2bfc1fc0153f08e8ce5edc5956eeca85bb6e57de17c", func := "loop.example/donjon/laws.FnExactTreeCut", spec := "fnExactTreeCut", apart := false }
def FnExactTreeCutSaid : Prop := fnExactTreeCutRow.holds Try.pinned (OpenSpec.ofChange fnExactTreeCutSpec)

/-- ITS FALSE NEIGHBOUR: 'it returns false'. Refute it at one input. -/
def fnExactTreeCutWrong : ChangeSpec := { name := "fnExactTreeCut", fn := fun _ => fun
  | [d1, d2] => { results := [.lit (.bool false)], args := [d1, d2] }
  | _ => none }
def FnExactTreeCutWrongFalsely : Prop := fnExactTreeCutRow.holds Try.pinned (OpenSpec.ofChange fnExactTreeCutWrong)

/-- 'laws.FnExactBootLabels': WHATEVER THE INPUT: true; the input reads as it did. -/
def fnExactBootLabelsSpec : ChangeSpec := { name := "fnExactBootLabels", fn := fun _ => fun
  | [d] => { results := [.lit (.bool true)], args := [d] }
  | _ => none }
def fnExactBootLabelsRow : OpenClaim := { program := "ytalfojoimnhmlaa", sum := "844552902df8334f7753f2bfc1fc0153f08e8ce5edc5956eeca85bb6e57de17c", func := "loop.example/donjon/laws.FnExactBootLabels", spec := "fnExactBootLabels", apart := false }
def FnExactBootLabelsSaid : Prop := fnExactBootLabelsRow.holds Try.pinned (OpenSpec.ofChange fnExactBootLabelsSpec)

/-- ITS FALSE NEIGHBOUR: 'it returns false'. Refute it at one input. -/
def fnExactBootLabelsWrong : ChangeSpec := { name := "fnExactBootLabels", fn := fun _ => fun
  | [d] => { results := [.lit (.bool false)], args := [d] }
  | _ => none }
def FnExactBootLabelsWrongFalsely : Prop := fnExactBootLabelsRow.holds Try.pinned (OpenSpec.ofChange fnExactBootLabelsWrong)

/-- 'laws.FnExactBootLabel': WHATEVER THE INPUT: true; the input reads as it did. -/
def fnExactBootLabelSpec : ChangeSpec := { name := "fnExactBootLabel", fn := fun _ => fun
  | [d1, d2] => { results := [.lit (.bool true)], args := [d1, d2] }
  | _ => none }
def fnExactBootLabelRow : OpenClaim := { program := "ytalfojoimnhmlaa", sum := "844552902df8334f7753f2bfc1fc0153f08e8ce5edc5956eeca85bb6e57de17c", func := "loop.example/donjon/laws.FnExactBootLabel", spec := "fnExactBootLabel", apart := false }
def FnExactBootLabelSaid : Prop := fnExactBootLabelRow.holds Try.pinned (OpenSpec.ofChange fnExactBootLabelSpec)

/-- ITS FALSE NEIGHBOUR: 'it returns false'. Refute it at one input. -/
def fnExactBootLabelWrong : ChangeSpec := { name := "fnExactBootLabel", fn := fun _ => fun
  | [d1, d2] => { results := [.lit (.bool false)], args := [d1, d2] }
  | _ => none }
def FnExactBootLabelWrongFalsely : Prop := fnExactBootLabelRow.holds Try.pinned (OpenSpec.ofChange fnExactBootLabelWrong)

/-- 'laws.FnTreeAbove': WHATEVER THE INPUT: true; the input reads as it did. -/
def fnTreeAboveSpec : ChangeSpec := { name := "fnTreeAbove", fn := fun _ => fun
  | [d] => { results := [.lit (.bool true)], args := [d] }
  | _ => none }
def fnTreeAboveRow : OpenClaim := { program := "ytalfojoimnhmlaa", sum := "844552902df8334f7753f2bfc1fc0153f08e8ce5edc5956eeca85bb6e57de17c", func := "loop.example/donjon/laws.FnTreeAbove", spec := "fnTreeAbove", apart := false }
def FnTreeAboveSaid : Prop := fnTreeAboveRow.holds Try.pinned (OpenSpec.ofChange fnTreeAboveSpec)

/-- ITS FALSE NEIGHBOUR: 'it returns false'. Refute it at one input. -/
def fnTreeAboveWrong : ChangeSpec := { name := "fnTreeAbove", fn := fun _ => fun
  | [d] => { results := [.lit (.bool false)], args := [d] }
  | _ => none }
def FnTreeAboveWrongFalsely : Prop := fnTreeAboveRow.holds Try.pinned (OpenSpec.ofChange fnTreeAboveWrong)

/-- 'laws.FnExactTreePut': WHATEVER THE INPUT: true; the input reads as it did. -/
def fnExactTreePutSpec : ChangeSpec := { name := "fnExactTreePut", fn := fun _ => fun
  | [d1, d2, d3] => { results := [.lit (.bool true)], args := [d1, d2, d3] }
  | _ => none }
def fnExactTreePutRow : OpenClaim := { program := "ytalfojoimnhmlaa", sum := "844552902df8334f7753f2bfc1fc0153f08e8ce5edc5956eeca85bb6e57de17c", func := "loop.example/donjon/laws.FnExactTreePut", spec := "fnExactTreePut", inPlace := ["slices.overlaps[loop.example/donjon/impl.TreeSlot]"], apart := false }
def FnExactTreePutSaid : Prop := fnExactTreePutRow.holds Try.pinned (OpenSpec.ofChange fnExactTreePutSpec)

/-- ITS FALSE NEIGHBOUR: 'it returns false'. Refute it at one input. -/
def fnExactTreePutWrong : ChangeSpec := { name := "fnExactTreePut", fn := fun _ => fun
  | [d1, d2, d3] => { results := [.lit (.bool false)], args := [d1, d2, d3] }
  | _ => none }
def FnExactTreePutWrongFalsely : Prop := fnExactTreePutRow.holds Try.pinned (OpenSpec.ofChange fnExactTreePutWrong)

/-- 'laws.FnTreePut': WHATEVER THE INPUT: true; the input reads as it did. -/
def fnTreePutSpec : ChangeSpec := { name := "fnTreePut", fn := fun _ => fun
  | [d] => { results := [.lit (.bool true)], args := [d] }
  | _ => none }
def fnTreePutRow : OpenClaim := { program := "ytalfojoimnhmlaa", sum := "844552902df8334f7753f2bfc1fc0153f08e8ce5edc5956eeca85bb6e57de17c", func := "loop.example/donjon/laws.FnTreePut", spec := "fnTreePut", inPlace := ["slices.overlaps[loop.example/donjon/impl.TreeSlot]"], unfollowed := true, recurses := true, apart := false }
def FnTreePutSaid : Prop := fnTreePutRow.holds Try.pinned (OpenSpec.ofChange fnTreePutSpec)

/-- ITS FALSE NEIGHBOUR: 'it returns false'. Refute it at one input. -/
def fnTreePutWrong : ChangeSpec := { name := "fnTreePut", fn := fun _ => fun
  | [d] => { results := [.lit (.bool false)], args := [d] }
  | _ => none }
def FnTreePutWrongFalsely : Prop := fnTreePutRow.holds Try.pinned (OpenSpec.ofChange fnTreePutWrong)

/-- 'laws.FnExactKernSame': WHATEVER THE INPUT: true; the input reads as it did. -/
def fnExactKernSameSpec : ChangeSpec := { name := "fnExactKernSame", fn := fun _ => fun
  | [d1, d2] => { results := [.lit (.bool true)], args := [d1, d2] }
  | _ => none }
def fnExactKernSameRow : OpenClaim := { program := "ytalfojoimnhmlaa", sum := "844552902df8334f7753f2bfc1fc0153f08e8ce5edc5956eeca85bb6e57de17c", func := "loop.example/donjon/laws.FnExactKernSame", spec := "fnExactKernSame", unfollowed := true, recurses := true, apart := false }
def FnExactKernSameSaid : Prop := fnExactKernSameRow.holds Try.pinned (OpenSpec.ofChange fnExactKernSameSpec)

/-- ITS FALSE NEIGHBOUR: 'it returns false'. Refute it at one input. -/
def fnExactKernSameWrong : ChangeSpec := { name := "fnExactKernSame", fn := fun _ => fun
  | [d1, d2] => { results := [.lit (.bool false)], args := [d1, d2] }
  | _ => none }
def FnExactKernSameWrongFalsely : Prop := fnExactKernSameRow.holds Try.pinned (OpenSpec.ofChange fnExactKernSameWrong)

/- THE SECOND FORM. 'bulk': how many values and letters a reading holds, each counted each time it is reached (what is shared counts as often as it is met; a slice's spare places count too). A statement '..UptoSaid' is the law's where the arguments, and the package variables that the reading takes, are together of bulk at most 1048576: NARROWER than '..Said'. Prove '..Said' where nothing that the law and all that it calls make is longer than what came in: it says more and counts as full. Else prove '..UptoSaid'. A law counts once. -/
mutual
def uptoBulk {H : Type} : DataW H → Nat
  | .lit (.string bytes) => bytes.length + 1
  | .lit _ => 1
  | .nil => 1
  | .ptr d => uptoBulk d + 1
  | .slice elems spare => uptoBulkAll elems + uptoBulkAll spare + 1
  | .agg parts => uptoBulkAll parts + 1
  | .iface _ d => uptoBulk d + 1
  | .map entries => uptoBulkEntries entries + 1
  | .held _ => 1
def uptoBulkAll {H : Type} : List (DataW H) → Nat
  | [] => 0
  | d :: r => uptoBulk d + uptoBulkAll r
def uptoBulkEntries {H : Type} : List (Lit × DataW H) → Nat
  | [] => 0
  | x :: r => uptoBulkEntry x + uptoBulkEntries r
def uptoBulkEntry {H : Type} : Lit × DataW H → Nat
  | (.string bytes, d) => bytes.length + uptoBulk d + 1
  | (_, d) => uptoBulk d + 1
 end
def uptoSmall : (H : Type) → List (DataW H) → Bool := fun _ ds => decide (uptoBulkAll ds ≤ 1048576)
def OpenSpec.upto (s : _root_.Go.ChangeSpec) : _root_.Go.OpenSpec := { _root_.Go.OpenSpec.ofChange s with cond := some uptoSmall }

/-- 'laws.FnExactTreeOk', WHERE WHAT IT READS IS OF BULK AT MOST 1048576: true; the input reads as it did. -/
def fnExactTreeOkUptoRow : OpenClaim := { program := "ytalfojoimnhmlaa", sum := "844552902df8334f7753f2bfc1fc0153f08e8ce5edc5956eeca85bb6e57de17c", func := "loop.example/donjon/laws.FnExactTreeOk", spec := "fnExactTreeOk", apart := false, narrowed := true }
def FnExactTreeOkUptoSaid : Prop := fnExactTreeOkUptoRow.holds Try.pinned (OpenSpec.upto fnExactTreeOkSpec)

/-- 'laws.FnExactTreeFind', WHERE WHAT IT READS IS OF BULK AT MOST 1048576: true; the input reads as it did. -/
def fnExactTreeFindUptoRow : OpenClaim := { program := "ytalfojoimnhmlaa", sum := "844552902df8334f7753f2bfc1fc0153f08e8ce5edc5956eeca85bb6e57de17c", func := "loop.example/donjon/laws.FnExactTreeFind", spec := "fnExactTreeFind", unfollowed := true, recurses := true, apart := false, narrowed := true }
def FnExactTreeFindUptoSaid : Prop := fnExactTreeFindUptoRow.holds Try.pinned (OpenSpec.upto fnExactTreeFindSpec)

/-- 'laws.FnExactTreeEnd', WHERE WHAT IT READS IS OF BULK AT MOST 1048576: true; the input reads as it did. -/
def fnExactTreeEndUptoRow : OpenClaim := { program := "ytalfojoimnhmlaa", sum := "844552902df8334f7753f2bfc1fc0153f08e8ce5edc5956eeca85bb6e57de17c", func := "loop.example/donjon/laws.FnExactTreeEnd", spec := "fnExactTreeEnd", apart := false, narrowed := true }
def FnExactTreeEndUptoSaid : Prop := fnExactTreeEndUptoRow.holds Try.pinned (OpenSpec.upto fnExactTreeEndSpec)

/-- 'laws.FnExactTreeAbove', WHERE WHAT IT READS IS OF BULK AT MOST 1048576: true; the input reads as it did. -/
def fnExactTreeAboveUptoRow : OpenClaim := { program := "ytalfojoimnhmlaa", sum := "844552902df8334f7753f2bfc1fc0153f08e8ce5edc5956eeca85bb6e57de17c", func := "loop.example/donjon/laws.FnExactTreeAbove", spec := "fnExactTreeAbove", apart := false, narrowed := true }
def FnExactTreeAboveUptoSaid : Prop := fnExactTreeAboveUptoRow.holds Try.pinned (OpenSpec.upto fnExactTreeAboveSpec)

/-- 'laws.FnExactTreeUp', WHERE WHAT IT READS IS OF BULK AT MOST 1048576: true; the input reads as it did. -/
def fnExactTreeUpUptoRow : OpenClaim := { program := "ytalfojoimnhmlaa", sum := "844552902df8334f7753f2bfc1fc0153f08e8ce5edc5956eeca85bb6e57de17c", func := "loop.example/donjon/laws.FnExactTreeUp", spec := "fnExactTreeUp", apart := false, narrowed := true }
def FnExactTreeUpUptoSaid : Prop := fnExactTreeUpUptoRow.holds Try.pinned (OpenSpec.upto fnExactTreeUpSpec)

/-- 'laws.FnExactTreeLeaf', WHERE WHAT IT READS IS OF BULK AT MOST 1048576: true; the input reads as it did. -/
def fnExactTreeLeafUptoRow : OpenClaim := { program := "ytalfojoimnhmlaa", sum := "844552902df8334f7753f2bfc1fc0153f08e8ce5edc5956eeca85bb6e57de17c", func := "loop.example/donjon/laws.FnExactTreeLeaf", spec := "fnExactTreeLeaf", apart := false, narrowed := true }
def FnExactTreeLeafUptoSaid : Prop := fnExactTreeLeafUptoRow.holds Try.pinned (OpenSpec.upto fnExactTreeLeafSpec)

/-- 'laws.FnExactBootOk', WHERE WHAT IT READS IS OF BULK AT MOST 1048576: true; the input reads as it did. -/
def fnExactBootOkUptoRow : OpenClaim := { program := "ytalfojoimnhmlaa", sum := "844552902df8334f7753f2bfc1fc0153f08e8ce5edc5956eeca85bb6e57de17c", func := "loop.example/donjon/laws.FnExactBootOk", spec := "fnExactBootOk", apart := false, narrowed := true }
def FnExactBootOkUptoSaid : Prop := fnExactBootOkUptoRow.holds Try.pinned (OpenSpec.upto fnExactBootOkSpec)

/-- 'laws.FnExactTreeCut', WHERE WHAT IT READS IS OF BULK AT MOST 1048576: true; the input reads as it did. -/
def fnExactTreeCutUptoRow : OpenClaim := { program := "ytalfojoimnhmlaa", sum := "844552902df8334f7753f2bfc1fc0153f08e8ce5edc5956eeca85bb6e57de17c", func := "loop.example/donjon/laws.FnExactTreeCut", spec := "fnExactTreeCut", apart := false, narrowed := true }
def FnExactTreeCutUptoSaid : Prop := fnExactTreeCutUptoRow.holds Try.pinned (OpenSpec.upto fnExactTreeCutSpec)

/-- 'laws.FnExactBootLabels', WHERE WHAT IT READS IS OF BULK AT MOST 1048576: true; the input reads as it did. -/
def fnExactBootLabelsUptoRow : OpenClaim := { program := "ytalfojoimnhmlaa", sum := "844552902df8334f7753f2bfc1fc0153f08e8ce5edc5956eeca85bb6e57de17c", func := "loop.example/donjon/laws.FnExactBootLabels", spec := "fnExactBootLabels", apart := false, narrowed := true }
def FnExactBootLabelsUptoSaid : Prop := fnExactBootLabelsUptoRow.holds Try.pinned (OpenSpec.upto fnExactBootLabelsSpec)

/-- 'laws.FnExactBootLabel', WHERE WHAT IT READS IS OF BULK AT MOST 1048576: true; the input reads as it did. -/
def fnExactBootLabelUptoRow : OpenClaim := { program := "ytalfojoimnhmlaa", sum := "844552902df8334f7753f2bfc1fc0153f08e8ce5edc5956eeca85bb6e57de17c", func := "loop.example/donjon/laws.FnExactBootLabel", spec := "fnExactBootLabel", apart := false, narrowed := true }
def FnExactBootLabelUptoSaid : Prop := fnExactBootLabelUptoRow.holds Try.pinned (OpenSpec.upto fnExactBootLabelSpec)

/-- 'laws.FnTreeAbove', WHERE WHAT IT READS IS OF BULK AT MOST 1048576: true; the input reads as it did. -/
def fnTreeAboveUptoRow : OpenClaim := { program := "ytalfojoimnhmlaa", sum := "844552902df8334f7753f2bfc1fc0153f08e8ce5edc5956eeca85bb6e57de17c", func := "loop.example/donjon/laws.FnTreeAbove", spec := "fnTreeAbove", apart := false, narrowed := true }
def FnTreeAboveUptoSaid : Prop := fnTreeAboveUptoRow.holds Try.pinned (OpenSpec.upto fnTreeAboveSpec)

/-- 'laws.FnExactTreePut', WHERE WHAT IT READS IS OF BULK AT MOST 1048576: true; the input reads as it did. -/
def fnExactTreePutUptoRow : OpenClaim := { program := "ytalfojoimnhmlaa", sum := "844552902df8334f7753f2bfc1fc0153f08e8ce5edc5956eeca85bb6e57de17c", func := "loop.example/donjon/laws.FnExactTreePut", spec := "fnExactTreePut", inPlace := ["slices.overlaps[loop.example/donjon/impl.TreeSlot]"], apart := false, narrowed := true }
def FnExactTreePutUptoSaid : Prop := fnExactTreePutUptoRow.holds Try.pinned (OpenSpec.upto fnExactTreePutSpec)

/-- 'laws.FnTreePut', WHERE WHAT IT READS IS OF BULK AT MOST 1048576: true; the input reads as it did. -/
def fnTreePutUptoRow : OpenClaim := { program := "ytalfojoimnhmlaa", sum := "844552902df8334f7753f2bfc1fc0153f08e8ce5edc5956eeca85bb6e57de17c", func := "loop.example/donjon/laws.FnTreePut", spec := "fnTreePut", inPlace := ["slices.overlaps[loop.example/donjon/impl.TreeSlot]"], unfollowed := true, recurses := true, apart := false, narrowed := true }
def FnTreePutUptoSaid : Prop := fnTreePutUptoRow.holds Try.pinned (OpenSpec.upto fnTreePutSpec)

/-- 'laws.FnExactKernSame', WHERE WHAT IT READS IS OF BULK AT MOST 1048576: true; the input reads as it did. -/
def fnExactKernSameUptoRow : OpenClaim := { program := "ytalfojoimnhmlaa", sum := "844552902df8334f7753f2bfc1fc0153f08e8ce5edc5956eeca85bb6e57de17c", func := "loop.example/donjon/laws.FnExactKernSame", spec := "fnExactKernSame", unfollowed := true, recurses := true, apart := false, narrowed := true }
def FnExactKernSameUptoSaid : Prop := fnExactKernSameUptoRow.holds Try.pinned (OpenSpec.upto fnExactKernSameSpec)

end Rows
end Go.Proofs.Ytalfojoimnhmlaa
