/-
  No cell of these rows narrows 'for every input' (looked for: loops, veiled, ifaces, maps, wideKeys, modest, calm, conditions, laid).
  DERIVED. THE GIVEN ROWS OF THIS SEAT. 12 by the template 'for every input the law returns true; each argument reads behind the call as it read before'; 0 by the template 'total and deterministic' (their statements: YtggapldcfpbcbaaTotals.lean).
  GIVEN WITH THE SEED: the statements are not yours to turn. If you find one false, say at which input.
  Laid BY PROGRAM, IN A SANDBOX (cutbox-rows.mjs): the forced cells as the released guide's own fill.sh prints them over the translation 0bb9153948a52a25… (all of the seat's roots in one cut). By AI agents, Wed Nov 11 2026. No macro, syntax, notation, axiom, sorry.
-/
import Derived.Test.YtggapldcfpbcbaaChecked
import GoSem.Claim
import GoSem.ClaimJoined
import GoSem.ClaimMapViews
import Derived.JoinedTies
import Derived.KernelRfl
namespace Go.Proofs.Ytggapldcfpbcbaa
/- THE CELL 'sum', in the pinned program and in every row, IS THE sha256 OF THE DUMP (.gsa) THAT YtggapldcfpbcbaaProg.lean LOADS. Nothing in Lean hashes anything: it is a label: what it is worth is what the hold of that sum in a sandbox is worth. -/
noncomputable def Try.pinned : Pinned := { name := "ytggapldcfpbcbaa", sum := "0bb9153948a52a25786d89b6705d3dd4b76a24ffc608f71423cf65b95369b601", checked := Try.checked }
namespace Rows
def none {H : Type} : Left H := { results := [], args := [] }

/-- 'laws.FnExactGraphValid': WHATEVER THE INPUT: true; the input reads as it did. -/
def fnExactGraphValidSpec : ChangeSpec := { name := "fnExactGraphValid", fn := fun _ => fun
  | [d] => { results := [.lit (.bool true)], args := [d] }
  | _ => none }
def fnExactGraphValidRow : OpenClaim := { program := "ytggapldcfpbcbaa", sum := "0bb9153948a52a25786d89b6705d3dd4b76a24ffc608f71423cf65b95369b601", func := "loop.example/capkernel/laws.FnExactGraphValid", spec := "fnExactGraphValid", unfollowed := true, recurses := true, apart := false }
def FnExactGraphValidSaid : Prop := fnExactGraphValidRow.holds Try.pinned (OpenSpec.ofChange fnExactGraphValidSpec)

/-- ITS FALSE NEIGHBOUR: 'it returns false'. Refute it at one input. -/
def fnExactGraphValidWrong : ChangeSpec := { name := "fnExactGraphValid", fn := fun _ => fun
  | [d] => { results := [.lit (.bool false)], args := [d] }
  | _ => none }
def FnExactGraphValidWrongFalsely : Prop := fnExactGraphValidRow.holds Try.pinned (OpenSpec.ofChange fnExactGraphValidWrong)

/-- 'laws.FnExactGraphWithin': WHATEVER THE INPUT: true; the input reads as it did. -/
def fnExactGraphWithinSpec : ChangeSpec := { name := "fnExactGraphWithin", fn := fun _ => fun
  | [d1, d2] => { results := [.lit (.bool true)], args := [d1, d2] }
  | _ => none }
def fnExactGraphWithinRow : OpenClaim := { program := "ytggapldcfpbcbaa", sum := "0bb9153948a52a25786d89b6705d3dd4b76a24ffc608f71423cf65b95369b601", func := "loop.example/capkernel/laws.FnExactGraphWithin", spec := "fnExactGraphWithin", unfollowed := true, recurses := true, apart := false }
def FnExactGraphWithinSaid : Prop := fnExactGraphWithinRow.holds Try.pinned (OpenSpec.ofChange fnExactGraphWithinSpec)

/-- ITS FALSE NEIGHBOUR: 'it returns false'. Refute it at one input. -/
def fnExactGraphWithinWrong : ChangeSpec := { name := "fnExactGraphWithin", fn := fun _ => fun
  | [d1, d2] => { results := [.lit (.bool false)], args := [d1, d2] }
  | _ => none }
def FnExactGraphWithinWrongFalsely : Prop := fnExactGraphWithinRow.holds Try.pinned (OpenSpec.ofChange fnExactGraphWithinWrong)

/-- 'laws.FnGraphValid': WHATEVER THE INPUT: true; the input reads as it did. -/
def fnGraphValidSpec : ChangeSpec := { name := "fnGraphValid", fn := fun _ => fun
  | [d] => { results := [.lit (.bool true)], args := [d] }
  | _ => none }
def fnGraphValidRow : OpenClaim := { program := "ytggapldcfpbcbaa", sum := "0bb9153948a52a25786d89b6705d3dd4b76a24ffc608f71423cf65b95369b601", func := "loop.example/capkernel/laws.FnGraphValid", spec := "fnGraphValid", inPlace := ["internal/abi.NoEscape"], unfollowed := true, recurses := true, apart := false }
def FnGraphValidSaid : Prop := fnGraphValidRow.holds Try.pinned (OpenSpec.ofChange fnGraphValidSpec)

/-- ITS FALSE NEIGHBOUR: 'it returns false'. Refute it at one input. -/
def fnGraphValidWrong : ChangeSpec := { name := "fnGraphValid", fn := fun _ => fun
  | [d] => { results := [.lit (.bool false)], args := [d] }
  | _ => none }
def FnGraphValidWrongFalsely : Prop := fnGraphValidRow.holds Try.pinned (OpenSpec.ofChange fnGraphValidWrong)

/-- 'laws.FnExactGrowGraph': WHATEVER THE INPUT: true; the input reads as it did. -/
def fnExactGrowGraphSpec : ChangeSpec := { name := "fnExactGrowGraph", fn := fun _ => fun
  | [d] => { results := [.lit (.bool true)], args := [d] }
  | _ => none }
def fnExactGrowGraphRow : OpenClaim := { program := "ytggapldcfpbcbaa", sum := "0bb9153948a52a25786d89b6705d3dd4b76a24ffc608f71423cf65b95369b601", func := "loop.example/capkernel/laws.FnExactGrowGraph", spec := "fnExactGrowGraph", unfollowed := true, recurses := true, apart := false }
def FnExactGrowGraphSaid : Prop := fnExactGrowGraphRow.holds Try.pinned (OpenSpec.ofChange fnExactGrowGraphSpec)

/-- ITS FALSE NEIGHBOUR: 'it returns false'. Refute it at one input. -/
def fnExactGrowGraphWrong : ChangeSpec := { name := "fnExactGrowGraph", fn := fun _ => fun
  | [d] => { results := [.lit (.bool false)], args := [d] }
  | _ => none }
def FnExactGrowGraphWrongFalsely : Prop := fnExactGrowGraphRow.holds Try.pinned (OpenSpec.ofChange fnExactGrowGraphWrong)

/-- 'laws.FnGraphWithin': WHATEVER THE INPUT: true; the input reads as it did. -/
def fnGraphWithinSpec : ChangeSpec := { name := "fnGraphWithin", fn := fun _ => fun
  | [d] => { results := [.lit (.bool true)], args := [d] }
  | _ => none }
def fnGraphWithinRow : OpenClaim := { program := "ytggapldcfpbcbaa", sum := "0bb9153948a52a25786d89b6705d3dd4b76a24ffc608f71423cf65b95369b601", func := "loop.example/capkernel/laws.FnGraphWithin", spec := "fnGraphWithin", inPlace := ["internal/abi.NoEscape"], unfollowed := true, recurses := true, apart := false }
def FnGraphWithinSaid : Prop := fnGraphWithinRow.holds Try.pinned (OpenSpec.ofChange fnGraphWithinSpec)

/-- ITS FALSE NEIGHBOUR: 'it returns false'. Refute it at one input. -/
def fnGraphWithinWrong : ChangeSpec := { name := "fnGraphWithin", fn := fun _ => fun
  | [d] => { results := [.lit (.bool false)], args := [d] }
  | _ => none }
def FnGraphWithinWrongFalsely : Prop := fnGraphWithinRow.holds Try.pinned (OpenSpec.ofChange fnGraphWithinWrong)

/-- 'laws.FnExactEverRights': WHATEVER THE INPUT: true; the input reads as it did. -/
def fnExactEverRightsSpec : ChangeSpec := { name := "fnExactEverRights", fn := fun _ => fun
  | [d1, d2, d3] => { results := [.lit (.bool true)], args := [d1, d2, d3] }
  | _ => none }
def fnExactEverRightsRow : OpenClaim := { program := "ytggapldcfpbcbaa", sum := "0bb9153948a52a25786d89b6705d3dd4b76a24ffc608f71423cf65b95369b601", func := "loop.example/capkernel/laws.FnExactEverRights", spec := "fnExactEverRights", unfollowed := true, recurses := true, apart := false }
def FnExactEverRightsSaid : Prop := fnExactEverRightsRow.holds Try.pinned (OpenSpec.ofChange fnExactEverRightsSpec)

/-- ITS FALSE NEIGHBOUR: 'it returns false'. Refute it at one input. -/
def fnExactEverRightsWrong : ChangeSpec := { name := "fnExactEverRights", fn := fun _ => fun
  | [d1, d2, d3] => { results := [.lit (.bool false)], args := [d1, d2, d3] }
  | _ => none }
def FnExactEverRightsWrongFalsely : Prop := fnExactEverRightsRow.holds Try.pinned (OpenSpec.ofChange fnExactEverRightsWrong)

/-- 'laws.FnExactCloseGraph': WHATEVER THE INPUT: true; the input reads as it did. -/
def fnExactCloseGraphSpec : ChangeSpec := { name := "fnExactCloseGraph", fn := fun _ => fun
  | [d] => { results := [.lit (.bool true)], args := [d] }
  | _ => none }
def fnExactCloseGraphRow : OpenClaim := { program := "ytggapldcfpbcbaa", sum := "0bb9153948a52a25786d89b6705d3dd4b76a24ffc608f71423cf65b95369b601", func := "loop.example/capkernel/laws.FnExactCloseGraph", spec := "fnExactCloseGraph", unfollowed := true, recurses := true, apart := false }
def FnExactCloseGraphSaid : Prop := fnExactCloseGraphRow.holds Try.pinned (OpenSpec.ofChange fnExactCloseGraphSpec)

/-- ITS FALSE NEIGHBOUR: 'it returns false'. Refute it at one input. -/
def fnExactCloseGraphWrong : ChangeSpec := { name := "fnExactCloseGraph", fn := fun _ => fun
  | [d] => { results := [.lit (.bool false)], args := [d] }
  | _ => none }
def FnExactCloseGraphWrongFalsely : Prop := fnExactCloseGraphRow.holds Try.pinned (OpenSpec.ofChange fnExactCloseGraphWrong)

/-- 'laws.FnEverRights': WHATEVER THE INPUT: true; the input reads as it did. -/
def fnEverRightsSpec : ChangeSpec := { name := "fnEverRights", fn := fun _ => fun
  | [d] => { results := [.lit (.bool true)], args := [d] }
  | _ => none }
def fnEverRightsRow : OpenClaim := { program := "ytggapldcfpbcbaa", sum := "0bb9153948a52a25786d89b6705d3dd4b76a24ffc608f71423cf65b95369b601", func := "loop.example/capkernel/laws.FnEverRights", spec := "fnEverRights", inPlace := ["internal/abi.NoEscape"], unfollowed := true, recurses := true, apart := false }
def FnEverRightsSaid : Prop := fnEverRightsRow.holds Try.pinned (OpenSpec.ofChange fnEverRightsSpec)

/-- ITS FALSE NEIGHBOUR: 'it returns false'. Refute it at one input. -/
def fnEverRightsWrong : ChangeSpec := { name := "fnEverRights", fn := fun _ => fun
  | [d] => { results := [.lit (.bool false)], args := [d] }
  | _ => none }
def FnEverRightsWrongFalsely : Prop := fnEverRightsRow.holds Try.pinned (OpenSpec.ofChange fnEverRightsWrong)

/-- 'laws.FnGrowGraph': WHATEVER THE INPUT: true; the input reads as it did. -/
def fnGrowGraphSpec : ChangeSpec := { name := "fnGrowGraph", fn := fun _ => fun
  | [d] => { results := [.lit (.bool true)], args := [d] }
  | _ => none }
def fnGrowGraphRow : OpenClaim := { program := "ytggapldcfpbcbaa", sum := "0bb9153948a52a25786d89b6705d3dd4b76a24ffc608f71423cf65b95369b601", func := "loop.example/capkernel/laws.FnGrowGraph", spec := "fnGrowGraph", inPlace := ["internal/abi.NoEscape"], unfollowed := true, recurses := true, apart := false }
def FnGrowGraphSaid : Prop := fnGrowGraphRow.holds Try.pinned (OpenSpec.ofChange fnGrowGraphSpec)

/-- ITS FALSE NEIGHBOUR: 'it returns false'. Refute it at one input. -/
def fnGrowGraphWrong : ChangeSpec := { name := "fnGrowGraph", fn := fun _ => fun
  | [d] => { results := [.lit (.bool false)], args := [d] }
  | _ => none }
def FnGrowGraphWrongFalsely : Prop := fnGrowGraphRow.holds Try.pinned (OpenSpec.ofChange fnGrowGraphWrong)

/-- 'laws.FnGraphLone': WHATEVER THE INPUT: true; the input reads as it did. -/
def fnGraphLoneSpec : ChangeSpec := { name := "fnGraphLone", fn := fun _ => fun
  | [d] => { results := [.lit (.bool true)], args := [d] }
  | _ => none }
def fnGraphLoneRow : OpenClaim := { program := "ytggapldcfpbcbaa", sum := "0bb9153948a52a25786d89b6705d3dd4b76a24ffc608f71423cf65b95369b601", func := "loop.example/capkernel/laws.FnGraphLone", spec := "fnGraphLone", inPlace := ["internal/abi.NoEscape"], unfollowed := true, recurses := true, apart := false }
def FnGraphLoneSaid : Prop := fnGraphLoneRow.holds Try.pinned (OpenSpec.ofChange fnGraphLoneSpec)

/-- ITS FALSE NEIGHBOUR: 'it returns false'. Refute it at one input. -/
def fnGraphLoneWrong : ChangeSpec := { name := "fnGraphLone", fn := fun _ => fun
  | [d] => { results := [.lit (.bool false)], args := [d] }
  | _ => none }
def FnGraphLoneWrongFalsely : Prop := fnGraphLoneRow.holds Try.pinned (OpenSpec.ofChange fnGraphLoneWrong)

/-- 'laws.FnGraphPair': WHATEVER THE INPUT: true; the input reads as it did. -/
def fnGraphPairSpec : ChangeSpec := { name := "fnGraphPair", fn := fun _ => fun
  | [d] => { results := [.lit (.bool true)], args := [d] }
  | _ => none }
def fnGraphPairRow : OpenClaim := { program := "ytggapldcfpbcbaa", sum := "0bb9153948a52a25786d89b6705d3dd4b76a24ffc608f71423cf65b95369b601", func := "loop.example/capkernel/laws.FnGraphPair", spec := "fnGraphPair", inPlace := ["internal/abi.NoEscape"], unfollowed := true, recurses := true, apart := false }
def FnGraphPairSaid : Prop := fnGraphPairRow.holds Try.pinned (OpenSpec.ofChange fnGraphPairSpec)

/-- ITS FALSE NEIGHBOUR: 'it returns false'. Refute it at one input. -/
def fnGraphPairWrong : ChangeSpec := { name := "fnGraphPair", fn := fun _ => fun
  | [d] => { results := [.lit (.bool false)], args := [d] }
  | _ => none }
def FnGraphPairWrongFalsely : Prop := fnGraphPairRow.holds Try.pinned (OpenSpec.ofChange fnGraphPairWrong)

/-- 'laws.FnCloseGraph': WHATEVER THE INPUT: true; the input reads as it did. -/
def fnCloseGraphSpec : ChangeSpec := { name := "fnCloseGraph", fn := fun _ => fun
  | [d1, d2] => { results := [.lit (.bool true)], args := [d1, d2] }
  | _ => none }
def fnCloseGraphRow : OpenClaim := { program := "ytggapldcfpbcbaa", sum := "0bb9153948a52a25786d89b6705d3dd4b76a24ffc608f71423cf65b95369b601", func := "loop.example/capkernel/laws.FnCloseGraph", spec := "fnCloseGraph", inPlace := ["internal/abi.NoEscape"], unfollowed := true, recurses := true, apart := false }
def FnCloseGraphSaid : Prop := fnCloseGraphRow.holds Try.pinned (OpenSpec.ofChange fnCloseGraphSpec)

/-- ITS FALSE NEIGHBOUR: 'it returns false'. Refute it at one input. -/
def fnCloseGraphWrong : ChangeSpec := { name := "fnCloseGraph", fn := fun _ => fun
  | [d1, d2] => { results := [.lit (.bool false)], args := [d1, d2] }
  | _ => none }
def FnCloseGraphWrongFalsely : Prop := fnCloseGraphRow.holds Try.pinned (OpenSpec.ofChange fnCloseGraphWrong)

/- THE SECOND FORM. 'bulk': how many values and letters a reading holds, each counted each time it is reached (what is shared counts as often as it is met; a slice's spare places count too). A statement '..UptoSaid' is the law's where the arguments, and the package variables that the reading takes, are together of bulk at most 1048576: NARROWER than '..Said'. Prove '..Said' where nothing that the law and all that it calls make is longer than what came in: it says more and counts as full. Else prove '..UptoSaid'. A law counts once. -/
mutual
def uptoBulk {H : Type} : DataW H → Nat
  | .lit (.string bytes) => bytes.length + 1
  | .lit _ => 1
  | .nil => 1
  | .ptr d => uptoBulk d + 1
  | .slice elems spare => uptoBulkAll elems + uptoBulkAll spare + 1
  | .agg parts => uptoBulkAll parts + 1
  | .iface _ d => uptoBulk d + 1
  | .map entries => uptoBulkEntries entries + 1
  | .held _ => 1
def uptoBulkAll {H : Type} : List (DataW H) → Nat
  | [] => 0
  | d :: r => uptoBulk d + uptoBulkAll r
def uptoBulkEntries {H : Type} : List (Lit × DataW H) → Nat
  | [] => 0
  | x :: r => uptoBulkEntry x + uptoBulkEntries r
def uptoBulkEntry {H : Type} : Lit × DataW H → Nat
  | (.string bytes, d) => bytes.length + uptoBulk d + 1
  | (_, d) => uptoBulk d + 1
 end
def uptoSmall : (H : Type) → List (DataW H) → Bool := fun _ ds => decide (uptoBulkAll ds ≤ 1048576)
def OpenSpec.upto (s : _root_.Go.ChangeSpec) : _root_.Go.OpenSpec := { _root_.Go.OpenSpec.ofChange s with cond := some uptoSmall }

/-- 'laws.FnExactGraphValid', WHERE WHAT IT READS IS OF BULK AT MOST 1048576: true; the input reads as it did. -/
def fnExactGraphValidUptoRow : OpenClaim := { program := "ytggapldcfpbcbaa", sum := "0bb9153948a52a25786d89b6705d3dd4b76a24ffc608f71423cf65b95369b601", func := "loop.example/capkernel/laws.FnExactGraphValid", spec := "fnExactGraphValid", unfollowed := true, recurses := true, apart := false, narrowed := true }
def FnExactGraphValidUptoSaid : Prop := fnExactGraphValidUptoRow.holds Try.pinned (OpenSpec.upto fnExactGraphValidSpec)

/-- 'laws.FnExactGraphWithin', WHERE WHAT IT READS IS OF BULK AT MOST 1048576: true; the input reads as it did. -/
def fnExactGraphWithinUptoRow : OpenClaim := { program := "ytggapldcfpbcbaa", sum := "0bb9153948a52a25786d89b6705d3dd4b76a24ffc608f71423cf65b95369b601", func := "loop.example/capkernel/laws.FnExactGraphWithin", spec := "fnExactGraphWithin", unfollowed := true, recurses := true, apart := false, narrowed := true }
def FnExactGraphWithinUptoSaid : Prop := fnExactGraphWithinUptoRow.holds Try.pinned (OpenSpec.upto fnExactGraphWithinSpec)

/-- 'laws.FnGraphValid', WHERE WHAT IT READS IS OF BULK AT MOST 1048576: true; the input reads as it did. -/
def fnGraphValidUptoRow : OpenClaim := { program := "ytggapldcfpbcbaa", sum := "0bb9153948a52a25786d89b6705d3dd4b76a24ffc608f71423cf65b95369b601", func := "loop.example/capkernel/laws.FnGraphValid", spec := "fnGraphValid", inPlace := ["internal/abi.NoEscape"], unfollowed := true, recurses := true, apart := false, narrowed := true }
def FnGraphValidUptoSaid : Prop := fnGraphValidUptoRow.holds Try.pinned (OpenSpec.upto fnGraphValidSpec)

/-- 'laws.FnExactGrowGraph', WHERE WHAT IT READS IS OF BULK AT MOST 1048576: true; the input reads as it did. -/
def fnExactGrowGraphUptoRow : OpenClaim := { program := "ytggapldcfpbcbaa", sum := "0bb9153948a52a25786d89b6705d3dd4b76a24ffc608f71423cf65b95369b601", func := "loop.example/capkernel/laws.FnExactGrowGraph", spec := "fnExactGrowGraph", unfollowed := true, recurses := true, apart := false, narrowed := true }
def FnExactGrowGraphUptoSaid : Prop := fnExactGrowGraphUptoRow.holds Try.pinned (OpenSpec.upto fnExactGrowGraphSpec)

/-- 'laws.FnGraphWithin', WHERE WHAT IT READS IS OF BULK AT MOST 1048576: true; the input reads as it did. -/
def fnGraphWithinUptoRow : OpenClaim := { program := "ytggapldcfpbcbaa", sum := "0bb9153948a52a25786d89b6705d3dd4b76a24ffc608f71423cf65b95369b601", func := "loop.example/capkernel/laws.FnGraphWithin", spec := "fnGraphWithin", inPlace := ["internal/abi.NoEscape"], unfollowed := true, recurses := true, apart := false, narrowed := true }
def FnGraphWithinUptoSaid : Prop := fnGraphWithinUptoRow.holds Try.pinned (OpenSpec.upto fnGraphWithinSpec)

/-- 'laws.FnExactEverRights', WHERE WHAT IT READS IS OF BULK AT MOST 1048576: true; the input reads as it did. -/
def fnExactEverRightsUptoRow : OpenClaim := { program := "ytggapldcfpbcbaa", sum := "0bb9153948a52a25786d89b6705d3dd4b76a24ffc608f71423cf65b95369b601", func := "loop.example/capkernel/laws.FnExactEverRights", spec := "fnExactEverRights", unfollowed := true, recurses := true, apart := false, narrowed := true }
def FnExactEverRightsUptoSaid : Prop := fnExactEverRightsUptoRow.holds Try.pinned (OpenSpec.upto fnExactEverRightsSpec)

/-- 'laws.FnExactCloseGraph', WHERE WHAT IT READS IS OF BULK AT MOST 1048576: true; the input reads as it did. -/
def fnExactCloseGraphUptoRow : OpenClaim := { program := "ytggapldcfpbcbaa", sum := "0bb9153948a52a25786d89b6705d3dd4b76a24ffc608f71423cf65b95369b601", func := "loop.example/capkernel/laws.FnExactCloseGraph", spec := "fnExactCloseGraph", unfollowed := true, recurses := true, apart := false, narrowed := true }
def FnExactCloseGraphUptoSaid : Prop := fnExactCloseGraphUptoRow.holds Try.pinned (OpenSpec.upto fnExactCloseGraphSpec)

/-- 'laws.FnEverRights', WHERE WHAT IT READS IS OF BULK AT MOST 1048576: true; the input reads as it did. -/
def fnEverRightsUptoRow : OpenClaim := { program := "ytggapldcfpbcbaa", sum := "0bb9153948a52a25786d89b6705d3dd4b76a24ffc608f71423cf65b95369b601", func := "loop.example/capkernel/laws.FnEverRights", spec := "fnEverRights", inPlace := ["internal/abi.NoEscape"], unfollowed := true, recurses := true, apart := false, narrowed := true }
def FnEverRightsUptoSaid : Prop := fnEverRightsUptoRow.holds Try.pinned (OpenSpec.upto fnEverRightsSpec)

/-- 'laws.FnGrowGraph', WHERE WHAT IT READS IS OF BULK AT MOST 1048576: true; the input reads as it did. -/
def fnGrowGraphUptoRow : OpenClaim := { program := "ytggapldcfpbcbaa", sum := "0bb9153948a52a25786d89b6705d3dd4b76a24ffc608f71423cf65b95369b601", func := "loop.example/capkernel/laws.FnGrowGraph", spec := "fnGrowGraph", inPlace := ["internal/abi.NoEscape"], unfollowed := true, recurses := true, apart := false, narrowed := true }
def FnGrowGraphUptoSaid : Prop := fnGrowGraphUptoRow.holds Try.pinned (OpenSpec.upto fnGrowGraphSpec)

/-- 'laws.FnGraphLone', WHERE WHAT IT READS IS OF BULK AT MOST 1048576: true; the input reads as it did. -/
def fnGraphLoneUptoRow : OpenClaim := { program := "ytggapldcfpbcbaa", sum := "0bb9153948a52a25786d89b6705d3dd4b76a24ffc608f71423cf65b95369b601", func := "loop.example/capkernel/laws.FnGraphLone", spec := "fnGraphLone", inPlace := ["internal/abi.NoEscape"], unfollowed := true, recurses := true, apart := false, narrowed := true }
def FnGraphLoneUptoSaid : Prop := fnGraphLoneUptoRow.holds Try.pinned (OpenSpec.upto fnGraphLoneSpec)

/-- 'laws.FnGraphPair', WHERE WHAT IT READS IS OF BULK AT MOST 1048576: true; the input reads as it did. -/
def fnGraphPairUptoRow : OpenClaim := { program := "ytggapldcfpbcbaa", sum := "0bb9153948a52a25786d89b6705d3dd4b76a24ffc608f71423cf65b95369b601", func := "loop.example/capkernel/laws.FnGraphPair", spec := "fnGraphPair", inPlace := ["internal/abi.NoEscape"], unfollowed := true, recurses := true, apart := false, narrowed := true }
def FnGraphPairUptoSaid : Prop := fnGraphPairUptoRow.holds Try.pinned (OpenSpec.upto fnGraphPairSpec)

/-- 'laws.FnCloseGraph', WHERE WHAT IT READS IS OF BULK AT MOST 1048576: true; the input reads as it did. -/
def fnCloseGraphUptoRow : OpenClaim := { program := "ytggapldcfpbcbaa", sum := "0bb9153948a52a25786d89b6705d3dd4b76a24ffc608f71423cf65b95369b601", func := "loop.example/capkernel/laws.FnCloseGraph", spec := "fnCloseGraph", inPlace := ["internal/abi.NoEscape"], unfollowed := true, recurses := true, apart := false, narrowed := true }
def FnCloseGraphUptoSaid : Prop := fnCloseGraphUptoRow.holds Try.pinned (OpenSpec.upto fnCloseGraphSpec)

end Rows
end Go.Proofs.Ytggapldcfpbcbaa
