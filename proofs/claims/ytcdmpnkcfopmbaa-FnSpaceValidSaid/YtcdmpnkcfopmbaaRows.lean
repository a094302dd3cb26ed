/-
  No cell of these rows narrows 'for every input' (looked for: loops, veiled, ifaces, maps, wideKeys, modest, calm, conditions, laid).
  DERIVED. THE GIVEN ROWS OF THIS SEAT. 11 by the template 'for every input the law returns true; each argument reads behind the call as it read before'; 0 by the template 'total and deterministic' (their statements: YtcdmpnkcfopmbaaTotals.lean).
  GIVEN WITH THE SEED: the statements are not yours to turn. If you find one false, say at which input.
  Laid BY PROGRAM, IN A SANDBOX (cutbox-rows.mjs): the forced cells as the released guide's own fill.sh prints them over the translation f88eaa562330d7a6… (all of the seat's roots in one cut). By AI agents, Wed Nov 11 2026. No macro, syntax, notation, axiom, sorry.
-/
import Derived.Test.YtcdmpnkcfopmbaaChecked
import GoSem.Claim
import GoSem.ClaimJoined
import GoSem.ClaimMapViews
import Derived.JoinedTies
import Derived.KernelRfl
namespace Go.Proofs.Ytcdmpnkcfopmbaa
/- THE CELL 'sum', in the pinned program and in every row, IS THE sha256 OF THE DUMP (.gsa) THAT YtcdmpnkcfopmbaaProg.lean LOADS. Nothing in Lean hashes anything: it is a label: what it is worth is what the hold of that sum in a sandbox is worth. -/
noncomputable def Try.pinned : Pinned := { name := "ytcdmpnkcfopmbaa", sum := "f88eaa562330d7a63a9fbf6f2cb098fa5d6366c46302ee0551b584289e9f00ee", checked := Try.checked }
namespace Rows
def none {H : Type} : Left H := { results := [], args := [] }

/-- 'laws.FnExactSpaceValid': WHATEVER THE INPUT: true; the input reads as it did. -/
def fnExactSpaceValidSpec : ChangeSpec := { name := "fnExactSpaceValid", fn := fun _ => fun
  | [d] => { results := [.lit (.bool true)], args := [d] }
  | _ => none }
def fnExactSpaceValidRow : OpenClaim := { program := "ytcdmpnkcfopmbaa", sum := "f88eaa562330d7a63a9fbf6f2cb098fa5d6366c46302ee0551b584289e9f00ee", func := "loop.example/capkernel/laws.FnExactSpaceValid", spec := "fnExactSpaceValid", apart := false }
def FnExactSpaceValidSaid : Prop := fnExactSpaceValidRow.holds Try.pinned (OpenSpec.ofChange fnExactSpaceValidSpec)

/-- ITS FALSE NEIGHBOUR: 'it returns false'. Refute it at one input. -/
def fnExactSpaceValidWrong : ChangeSpec := { name := "fnExactSpaceValid", fn := fun _ => fun
  | [d] => { results := [.lit (.bool false)], args := [d] }
  | _ => none }
def FnExactSpaceValidWrongFalsely : Prop := fnExactSpaceValidRow.holds Try.pinned (OpenSpec.ofChange fnExactSpaceValidWrong)

/-- 'laws.FnExactTranslate': WHATEVER THE INPUT: true; the input reads as it did. -/
def fnExactTranslateSpec : ChangeSpec := { name := "fnExactTranslate", fn := fun _ => fun
  | [d1, d2, d3] => { results := [.lit (.bool true)], args := [d1, d2, d3] }
  | _ => none }
def fnExactTranslateRow : OpenClaim := { program := "ytcdmpnkcfopmbaa", sum := "f88eaa562330d7a63a9fbf6f2cb098fa5d6366c46302ee0551b584289e9f00ee", func := "loop.example/capkernel/laws.FnExactTranslate", spec := "fnExactTranslate", apart := false }
def FnExactTranslateSaid : Prop := fnExactTranslateRow.holds Try.pinned (OpenSpec.ofChange fnExactTranslateSpec)

/-- ITS FALSE NEIGHBOUR: 'it returns false'. Refute it at one input. -/
def fnExactTranslateWrong : ChangeSpec := { name := "fnExactTranslate", fn := fun _ => fun
  | [d1, d2, d3] => { results := [.lit (.bool false)], args := [d1, d2, d3] }
  | _ => none }
def FnExactTranslateWrongFalsely : Prop := fnExactTranslateRow.holds Try.pinned (OpenSpec.ofChange fnExactTranslateWrong)

/-- 'laws.FnSpaceValid': WHATEVER THE INPUT: true; the input reads as it did. -/
def fnSpaceValidSpec : ChangeSpec := { name := "fnSpaceValid", fn := fun _ => fun
  | [d] => { results := [.lit (.bool true)], args := [d] }
  | _ => none }
def fnSpaceValidRow : OpenClaim := { program := "ytcdmpnkcfopmbaa", sum := "f88eaa562330d7a63a9fbf6f2cb098fa5d6366c46302ee0551b584289e9f00ee", func := "loop.example/capkernel/laws.FnSpaceValid", spec := "fnSpaceValid", inPlace := ["internal/abi.NoEscape"], apart := false }
def FnSpaceValidSaid : Prop := fnSpaceValidRow.holds Try.pinned (OpenSpec.ofChange fnSpaceValidSpec)

/-- ITS FALSE NEIGHBOUR: 'it returns false'. Refute it at one input. -/
def fnSpaceValidWrong : ChangeSpec := { name := "fnSpaceValid", fn := fun _ => fun
  | [d] => { results := [.lit (.bool false)], args := [d] }
  | _ => none }
def FnSpaceValidWrongFalsely : Prop := fnSpaceValidRow.holds Try.pinned (OpenSpec.ofChange fnSpaceValidWrong)

/-- 'laws.FnExactUnmapPage': WHATEVER THE INPUT: true; the input reads as it did. -/
def fnExactUnmapPageSpec : ChangeSpec := { name := "fnExactUnmapPage", fn := fun _ => fun
  | [d1, d2] => { results := [.lit (.bool true)], args := [d1, d2] }
  | _ => none }
def fnExactUnmapPageRow : OpenClaim := { program := "ytcdmpnkcfopmbaa", sum := "f88eaa562330d7a63a9fbf6f2cb098fa5d6366c46302ee0551b584289e9f00ee", func := "loop.example/capkernel/laws.FnExactUnmapPage", spec := "fnExactUnmapPage", apart := false }
def FnExactUnmapPageSaid : Prop := fnExactUnmapPageRow.holds Try.pinned (OpenSpec.ofChange fnExactUnmapPageSpec)

/-- ITS FALSE NEIGHBOUR: 'it returns false'. Refute it at one input. -/
def fnExactUnmapPageWrong : ChangeSpec := { name := "fnExactUnmapPage", fn := fun _ => fun
  | [d1, d2] => { results := [.lit (.bool false)], args := [d1, d2] }
  | _ => none }
def FnExactUnmapPageWrongFalsely : Prop := fnExactUnmapPageRow.holds Try.pinned (OpenSpec.ofChange fnExactUnmapPageWrong)

/-- 'laws.FnExactUnmapFrame': WHATEVER THE INPUT: true; the input reads as it did. -/
def fnExactUnmapFrameSpec : ChangeSpec := { name := "fnExactUnmapFrame", fn := fun _ => fun
  | [d1, d2] => { results := [.lit (.bool true)], args := [d1, d2] }
  | _ => none }
def fnExactUnmapFrameRow : OpenClaim := { program := "ytcdmpnkcfopmbaa", sum := "f88eaa562330d7a63a9fbf6f2cb098fa5d6366c46302ee0551b584289e9f00ee", func := "loop.example/capkernel/laws.FnExactUnmapFrame", spec := "fnExactUnmapFrame", unfollowed := true, recurses := true, apart := false }
def FnExactUnmapFrameSaid : Prop := fnExactUnmapFrameRow.holds Try.pinned (OpenSpec.ofChange fnExactUnmapFrameSpec)

/-- ITS FALSE NEIGHBOUR: 'it returns false'. Refute it at one input. -/
def fnExactUnmapFrameWrong : ChangeSpec := { name := "fnExactUnmapFrame", fn := fun _ => fun
  | [d1, d2] => { results := [.lit (.bool false)], args := [d1, d2] }
  | _ => none }
def FnExactUnmapFrameWrongFalsely : Prop := fnExactUnmapFrameRow.holds Try.pinned (OpenSpec.ofChange fnExactUnmapFrameWrong)

/-- 'laws.FnTranslate': WHATEVER THE INPUT: true; the input reads as it did. -/
def fnTranslateSpec : ChangeSpec := { name := "fnTranslate", fn := fun _ => fun
  | [d] => { results := [.lit (.bool true)], args := [d] }
  | _ => none }
def fnTranslateRow : OpenClaim := { program := "ytcdmpnkcfopmbaa", sum := "f88eaa562330d7a63a9fbf6f2cb098fa5d6366c46302ee0551b584289e9f00ee", func := "loop.example/capkernel/laws.FnTranslate", spec := "fnTranslate", inPlace := ["internal/abi.NoEscape"], apart := false }
def FnTranslateSaid : Prop := fnTranslateRow.holds Try.pinned (OpenSpec.ofChange fnTranslateSpec)

/-- ITS FALSE NEIGHBOUR: 'it returns false'. Refute it at one input. -/
def fnTranslateWrong : ChangeSpec := { name := "fnTranslate", fn := fun _ => fun
  | [d] => { results := [.lit (.bool false)], args := [d] }
  | _ => none }
def FnTranslateWrongFalsely : Prop := fnTranslateRow.holds Try.pinned (OpenSpec.ofChange fnTranslateWrong)

/-- 'laws.FnUnmapPage': WHATEVER THE INPUT: true; the input reads as it did. -/
def fnUnmapPageSpec : ChangeSpec := { name := "fnUnmapPage", fn := fun _ => fun
  | [d] => { results := [.lit (.bool true)], args := [d] }
  | _ => none }
def fnUnmapPageRow : OpenClaim := { program := "ytcdmpnkcfopmbaa", sum := "f88eaa562330d7a63a9fbf6f2cb098fa5d6366c46302ee0551b584289e9f00ee", func := "loop.example/capkernel/laws.FnUnmapPage", spec := "fnUnmapPage", inPlace := ["internal/abi.NoEscape"], apart := false }
def FnUnmapPageSaid : Prop := fnUnmapPageRow.holds Try.pinned (OpenSpec.ofChange fnUnmapPageSpec)

/-- ITS FALSE NEIGHBOUR: 'it returns false'. Refute it at one input. -/
def fnUnmapPageWrong : ChangeSpec := { name := "fnUnmapPage", fn := fun _ => fun
  | [d] => { results := [.lit (.bool false)], args := [d] }
  | _ => none }
def FnUnmapPageWrongFalsely : Prop := fnUnmapPageRow.holds Try.pinned (OpenSpec.ofChange fnUnmapPageWrong)

/-- 'laws.FnUnmapFrame': WHATEVER THE INPUT: true; the input reads as it did. -/
def fnUnmapFrameSpec : ChangeSpec := { name := "fnUnmapFrame", fn := fun _ => fun
  | [d] => { results := [.lit (.bool true)], args := [d] }
  | _ => none }
def fnUnmapFrameRow : OpenClaim := { program := "ytcdmpnkcfopmbaa", sum := "f88eaa562330d7a63a9fbf6f2cb098fa5d6366c46302ee0551b584289e9f00ee", func := "loop.example/capkernel/laws.FnUnmapFrame", spec := "fnUnmapFrame", inPlace := ["internal/abi.NoEscape"], unfollowed := true, recurses := true, apart := false }
def FnUnmapFrameSaid : Prop := fnUnmapFrameRow.holds Try.pinned (OpenSpec.ofChange fnUnmapFrameSpec)

/-- ITS FALSE NEIGHBOUR: 'it returns false'. Refute it at one input. -/
def fnUnmapFrameWrong : ChangeSpec := { name := "fnUnmapFrame", fn := fun _ => fun
  | [d] => { results := [.lit (.bool false)], args := [d] }
  | _ => none }
def FnUnmapFrameWrongFalsely : Prop := fnUnmapFrameRow.holds Try.pinned (OpenSpec.ofChange fnUnmapFrameWrong)

/-- 'laws.FnExactMapPage': WHATEVER THE INPUT: true; the input reads as it did. -/
def fnExactMapPageSpec : ChangeSpec := { name := "fnExactMapPage", fn := fun _ => fun
  | [d1, d2, d3, d4] => { results := [.lit (.bool true)], args := [d1, d2, d3, d4] }
  | _ => none }
def fnExactMapPageRow : OpenClaim := { program := "ytcdmpnkcfopmbaa", sum := "f88eaa562330d7a63a9fbf6f2cb098fa5d6366c46302ee0551b584289e9f00ee", func := "loop.example/capkernel/laws.FnExactMapPage", spec := "fnExactMapPage", inPlace := ["slices.overlaps[loop.example/capkernel/impl.Mapping]"], apart := false }
def FnExactMapPageSaid : Prop := fnExactMapPageRow.holds Try.pinned (OpenSpec.ofChange fnExactMapPageSpec)

/-- ITS FALSE NEIGHBOUR: 'it returns false'. Refute it at one input. -/
def fnExactMapPageWrong : ChangeSpec := { name := "fnExactMapPage", fn := fun _ => fun
  | [d1, d2, d3, d4] => { results := [.lit (.bool false)], args := [d1, d2, d3, d4] }
  | _ => none }
def FnExactMapPageWrongFalsely : Prop := fnExactMapPageRow.holds Try.pinned (OpenSpec.ofChange fnExactMapPageWrong)

/-- 'laws.FnSpaceOrder': WHATEVER THE INPUT: true; the input reads as it did. -/
def fnSpaceOrderSpec : ChangeSpec := { name := "fnSpaceOrder", fn := fun _ => fun
  | [d1, d2] => { results := [.lit (.bool true)], args := [d1, d2] }
  | _ => none }
def fnSpaceOrderRow : OpenClaim := { program := "ytcdmpnkcfopmbaa", sum := "f88eaa562330d7a63a9fbf6f2cb098fa5d6366c46302ee0551b584289e9f00ee", func := "loop.example/capkernel/laws.FnSpaceOrder", spec := "fnSpaceOrder", inPlace := ["slices.overlaps[loop.example/capkernel/impl.Mapping]", "internal/abi.NoEscape"], apart := false }
def FnSpaceOrderSaid : Prop := fnSpaceOrderRow.holds Try.pinned (OpenSpec.ofChange fnSpaceOrderSpec)

/-- ITS FALSE NEIGHBOUR: 'it returns false'. Refute it at one input. -/
def fnSpaceOrderWrong : ChangeSpec := { name := "fnSpaceOrder", fn := fun _ => fun
  | [d1, d2] => { results := [.lit (.bool false)], args := [d1, d2] }
  | _ => none }
def FnSpaceOrderWrongFalsely : Prop := fnSpaceOrderRow.holds Try.pinned (OpenSpec.ofChange fnSpaceOrderWrong)

/-- 'laws.FnMapPage': WHATEVER THE INPUT: true; the input reads as it did. -/
def fnMapPageSpec : ChangeSpec := { name := "fnMapPage", fn := fun _ => fun
  | [d] => { results := [.lit (.bool true)], args := [d] }
  | _ => none }
def fnMapPageRow : OpenClaim := { program := "ytcdmpnkcfopmbaa", sum := "f88eaa562330d7a63a9fbf6f2cb098fa5d6366c46302ee0551b584289e9f00ee", func := "loop.example/capkernel/laws.FnMapPage", spec := "fnMapPage", inPlace := ["slices.overlaps[loop.example/capkernel/impl.Mapping]", "internal/abi.NoEscape"], apart := false }
def FnMapPageSaid : Prop := fnMapPageRow.holds Try.pinned (OpenSpec.ofChange fnMapPageSpec)

/-- ITS FALSE NEIGHBOUR: 'it returns false'. Refute it at one input. -/
def fnMapPageWrong : ChangeSpec := { name := "fnMapPage", fn := fun _ => fun
  | [d] => { results := [.lit (.bool false)], args := [d] }
  | _ => none }
def FnMapPageWrongFalsely : Prop := fnMapPageRow.holds Try.pinned (OpenSpec.ofChange fnMapPageWrong)

/- THE SECOND FORM. 'bulk': how many values and letters a reading holds, each counted each time it is reached (what is shared counts as often as it is met; a slice's spare places count too). A statement '..UptoSaid' is the law's where the arguments, and the package variables that the reading takes, are together of bulk at most 1048576: NARROWER than '..Said'. Prove '..Said' where nothing that the law and all that it calls make is longer than what came in: it says more and counts as full. Else prove '..UptoSaid'. A law counts once. -/
mutual
def uptoBulk {H : Type} : DataW H → Nat
  | .lit (.string bytes) => bytes.length + 1
  | .lit _ => 1
  | .nil => 1
  | .ptr d => uptoBulk d + 1
  | .slice elems spare => uptoBulkAll elems + uptoBulkAll spare + 1
  | .agg parts => uptoBulkAll parts + 1
  | .iface _ d => uptoBulk d + 1
  | .map entries => uptoBulkEntries entries + 1
  | .held _ => 1
def uptoBulkAll {H : Type} : List (DataW H) → Nat
  | [] => 0
  | d :: r => uptoBulk d + uptoBulkAll r
def uptoBulkEntries {H : Type} : List (Lit × DataW H) → Nat
  | [] => 0
  | x :: r => uptoBulkEntry x + uptoBulkEntries r
def uptoBulkEntry {H : Type} : Lit × DataW H → Nat
  | (.string bytes, d) => bytes.length + uptoBulk d + 1
  | (_, d) => uptoBulk d + 1
 end
def uptoSmall : (H : Type) → List (DataW H) → Bool := fun _ ds => decide (uptoBulkAll ds ≤ 1048576)
def OpenSpec.upto (s : _root_.Go.ChangeSpec) : _root_.Go.OpenSpec := { _root_.Go.OpenSpec.ofChange s with cond := some uptoSmall }

/-- 'laws.FnExactSpaceValid', WHERE WHAT IT READS IS OF BULK AT MOST 1048576: true; the input reads as it did. -/
def fnExactSpaceValidUptoRow : OpenClaim := { program := "ytcdmpnkcfopmbaa", sum := "f88eaa562330d7a63a9fbf6f2cb098fa5d6366c46302ee0551b584289e9f00ee", func := "loop.example/capkernel/laws.FnExactSpaceValid", spec := "fnExactSpaceValid", apart := false, narrowed := true }
def FnExactSpaceValidUptoSaid : Prop := fnExactSpaceValidUptoRow.holds Try.pinned (OpenSpec.upto fnExactSpaceValidSpec)

/-- 'laws.FnExactTranslate', WHERE WHAT IT READS IS OF BULK AT MOST 1048576: true; the input reads as it did. -/
def fnExactTranslateUptoRow : OpenClaim := { program := "ytcdmpnkcfopmbaa", sum := "f88eaa562330d7a63a9fbf6f2cb098fa5d6366c46302ee0551b584289e9f00ee", func := "loop.example/capkernel/laws.FnExactTranslate", spec := "fnExactTranslate", apart := false, narrowed := true }
def FnExactTranslateUptoSaid : Prop := fnExactTranslateUptoRow.holds Try.pinned (OpenSpec.upto fnExactTranslateSpec)

/-- 'laws.FnSpaceValid', WHERE WHAT IT READS IS OF BULK AT MOST 1048576: true; the input reads as it did. -/
def fnSpaceValidUptoRow : OpenClaim := { program := "ytcdmpnkcfopmbaa", sum := "f88eaa562330d7a63a9fbf6f2cb098fa5d6366c46302ee0551b584289e9f00ee", func := "loop.example/capkernel/laws.FnSpaceValid", spec := "fnSpaceValid", inPlace := ["internal/abi.NoEscape"], apart := false, narrowed := true }
def FnSpaceValidUptoSaid : Prop := fnSpaceValidUptoRow.holds Try.pinned (OpenSpec.upto fnSpaceValidSpec)

/-- 'laws.FnExactUnmapPage', WHERE WHAT IT READS IS OF BULK AT MOST 1048576: true; the input reads as it did. -/
def fnExactUnmapPageUptoRow : OpenClaim := { program := "ytcdmpnkcfopmbaa", sum := "f88eaa562330d7a63a9fbf6f2cb098fa5d6366c46302ee0551b584289e9f00ee", func := "loop.example/capkernel/laws.FnExactUnmapPage", spec := "fnExactUnmapPage", apart := false, narrowed := true }
def FnExactUnmapPageUptoSaid : Prop := fnExactUnmapPageUptoRow.holds Try.pinned (OpenSpec.upto fnExactUnmapPageSpec)

/-- 'laws.FnExactUnmapFrame', WHERE WHAT IT READS IS OF BULK AT MOST 1048576: true; the input reads as it did. -/
def fnExactUnmapFrameUptoRow : OpenClaim := { program := "ytcdmpnkcfopmbaa", sum := "f88eaa562330d7a63a9fbf6f2cb098fa5d6366c46302ee0551b584289e9f00ee", func := "loop.example/capkernel/laws.FnExactUnmapFrame", spec := "fnExactUnmapFrame", unfollowed := true, recurses := true, apart := false, narrowed := true }
def FnExactUnmapFrameUptoSaid : Prop := fnExactUnmapFrameUptoRow.holds Try.pinned (OpenSpec.upto fnExactUnmapFrameSpec)

/-- 'laws.FnTranslate', WHERE WHAT IT READS IS OF BULK AT MOST 1048576: true; the input reads as it did. -/
def fnTranslateUptoRow : OpenClaim := { program := "ytcdmpnkcfopmbaa", sum := "f88eaa562330d7a63a9fbf6f2cb098fa5d6366c46302ee0551b584289e9f00ee", func := "loop.example/capkernel/laws.FnTranslate", spec := "fnTranslate", inPlace := ["internal/abi.NoEscape"], apart := false, narrowed := true }
def FnTranslateUptoSaid : Prop := fnTranslateUptoRow.holds Try.pinned (OpenSpec.upto fnTranslateSpec)

/-- 'laws.FnUnmapPage', WHERE WHAT IT READS IS OF BULK AT MOST 1048576: true; the input reads as it did. -/
def fnUnmapPageUptoRow : OpenClaim := { program := "ytcdmpnkcfopmbaa", sum := "f88eaa562330d7a63a9fbf6f2cb098fa5d6366c46302ee0551b584289e9f00ee", func := "loop.example/capkernel/laws.FnUnmapPage", spec := "fnUnmapPage", inPlace := ["internal/abi.NoEscape"], apart := false, narrowed := true }
def FnUnmapPageUptoSaid : Prop := fnUnmapPageUptoRow.holds Try.pinned (OpenSpec.upto fnUnmapPageSpec)

/-- 'laws.FnUnmapFrame', WHERE WHAT IT READS IS OF BULK AT MOST 1048576: true; the input reads as it did. -/
def fnUnmapFrameUptoRow : OpenClaim := { program := "ytcdmpnkcfopmbaa", sum := "f88eaa562330d7a63a9fbf6f2cb098fa5d6366c46302ee0551b584289e9f00ee", func := "loop.example/capkernel/laws.FnUnmapFrame", spec := "fnUnmapFrame", inPlace := ["internal/abi.NoEscape"], unfollowed := true, recurses := true, apart := false, narrowed := true }
def FnUnmapFrameUptoSaid : Prop := fnUnmapFrameUptoRow.holds Try.pinned (OpenSpec.upto fnUnmapFrameSpec)

/-- 'laws.FnExactMapPage', WHERE WHAT IT READS IS OF BULK AT MOST 1048576: true; the input reads as it did. -/
def fnExactMapPageUptoRow : OpenClaim := { program := "ytcdmpnkcfopmbaa", sum := "f88eaa562330d7a63a9fbf6f2cb098fa5d6366c46302ee0551b584289e9f00ee", func := "loop.example/capkernel/laws.FnExactMapPage", spec := "fnExactMapPage", inPlace := ["slices.overlaps[loop.example/capkernel/impl.Mapping]"], apart := false, narrowed := true }
def FnExactMapPageUptoSaid : Prop := fnExactMapPageUptoRow.holds Try.pinned (OpenSpec.upto fnExactMapPageSpec)

/-- 'laws.FnSpaceOrder', WHERE WHAT IT READS IS OF BULK AT MOST 1048576: true; the input reads as it did. -/
def fnSpaceOrderUptoRow : OpenClaim := { program := "ytcdmpnkcfopmbaa", sum := "f88eaa562330d7a63a9fbf6f2cb098fa5d6366c46302ee0551b584289e9f00ee", func := "loop.example/capkernel/laws.FnSpaceOrder", spec := "fnSpaceOrder", inPlace := ["slices.overlaps[loop.example/capkernel/impl.Mapping]", "internal/abi.NoEscape"], apart := false, narrowed := true }
def FnSpaceOrderUptoSaid : Prop := fnSpaceOrderUptoRow.holds Try.pinned (OpenSpec.upto fnSpaceOrderSpec)

/-- 'laws.FnMapPage', WHERE WHAT IT READS IS OF BULK AT MOST 1048576: true; the input reads as it did. -/
def fnMapPageUptoRow : OpenClaim := { program := "ytcdmpnkcfopmbaa", sum := "f88eaa562330d7a63a9fbf6f2cb098fa5d6366c46302ee0551b584289e9f00ee", func := "loop.example/capkernel/laws.FnMapPage", spec := "fnMapPage", inPlace := ["slices.overlaps[loop.example/capkernel/impl.Mapping]", "internal/abi.NoEscape"], apart := false, narrowed := true }
def FnMapPageUptoSaid : Prop := fnMapPageUptoRow.holds Try.pinned (OpenSpec.upto fnMapPageSpec)

end Rows
end Go.Proofs.Ytcdmpnkcfopmbaa
