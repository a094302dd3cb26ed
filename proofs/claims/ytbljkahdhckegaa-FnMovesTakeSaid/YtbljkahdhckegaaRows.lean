/-
  No cell of these rows narrows 'for every input' (looked for: loops, veiled, ifaces, maps, wideKeys, modest, calm, conditions, laid).
  DERIVED. THE GIVEN ROWS OF THIS SEAT. 7 by the template 'for every input the law returns true; each argument reads behind the call as it read before'; 0 by the template 'total and deterministic' (their statements: YtbljkahdhckegaaTotals.lean).
  GIVEN WITH THE SEED: the statements are not yours to turn. If you find one false, say at which input.
  Laid BY PROGRAM, IN A SANDBOX (cutbox-rows.mjs): the forced cells as the released guide's own fill.sh prints them over the translation 8272d24f7027cb1b… (all of the seat's roots in one cut). By AI agents, Wed Nov 11 2026. No macro, syntax, notation, axiom, sorry.
-/
import Derived.Test.YtbljkahdhckegaaChecked
import GoSem.Claim
import GoSem.ClaimJoined
import GoSem.ClaimMapViews
import Derived.JoinedTies
import Derived.KernelRfl
namespace Go.Proofs.Ytbljkahdhckegaa
/- THE CELL 'sum', in the pinned program and in every row, IS THE sha256 OF THE DUMP (.gsa) THAT YtbljkahdhckegaaProg.lean LOADS. Nothing in Lean hashes anything: it is a label: what it is worth is what the hold of that sum in a sandbox is worth. -/
noncomputable def Try.pinned : Pinned := { name := "ytbljkahdhckegaa", sum := "8272d24f7027cb1b2bcb3ddf4846c94efb33bafc3b0360cdd99d7798d4b49157", checked := Try.checked }
namespace Rows
def none {H : Type} : Left H := { results := [], args := [] }

/-- 'laws.FnExactMoveAllowed': WHATEVER THE INPUT: true; the input reads as it did. -/
def fnExactMoveAllowedSpec : ChangeSpec := { name := "fnExactMoveAllowed", fn := fun _ => fun
  | [d1, d2] => { results := [.lit (.bool true)], args := [d1, d2] }
  | _ => none }
def fnExactMoveAllowedRow : OpenClaim := { program := "ytbljkahdhckegaa", sum := "8272d24f7027cb1b2bcb3ddf4846c94efb33bafc3b0360cdd99d7798d4b49157", func := "loop.example/capkernel/laws.FnExactMoveAllowed", spec := "fnExactMoveAllowed", unfollowed := true, recurses := true, apart := false }
def FnExactMoveAllowedSaid : Prop := fnExactMoveAllowedRow.holds Try.pinned (OpenSpec.ofChange fnExactMoveAllowedSpec)

/-- ITS FALSE NEIGHBOUR: 'it returns false'. Refute it at one input. -/
def fnExactMoveAllowedWrong : ChangeSpec := { name := "fnExactMoveAllowed", fn := fun _ => fun
  | [d1, d2] => { results := [.lit (.bool false)], args := [d1, d2] }
  | _ => none }
def FnExactMoveAllowedWrongFalsely : Prop := fnExactMoveAllowedRow.holds Try.pinned (OpenSpec.ofChange fnExactMoveAllowedWrong)

/-- 'laws.FnMoveAllowed': WHATEVER THE INPUT: true; the input reads as it did. -/
def fnMoveAllowedSpec : ChangeSpec := { name := "fnMoveAllowed", fn := fun _ => fun
  | [d] => { results := [.lit (.bool true)], args := [d] }
  | _ => none }
def fnMoveAllowedRow : OpenClaim := { program := "ytbljkahdhckegaa", sum := "8272d24f7027cb1b2bcb3ddf4846c94efb33bafc3b0360cdd99d7798d4b49157", func := "loop.example/capkernel/laws.FnMoveAllowed", spec := "fnMoveAllowed", inPlace := ["internal/abi.NoEscape"], unfollowed := true, recurses := true, apart := false }
def FnMoveAllowedSaid : Prop := fnMoveAllowedRow.holds Try.pinned (OpenSpec.ofChange fnMoveAllowedSpec)

/-- ITS FALSE NEIGHBOUR: 'it returns false'. Refute it at one input. -/
def fnMoveAllowedWrong : ChangeSpec := { name := "fnMoveAllowed", fn := fun _ => fun
  | [d] => { results := [.lit (.bool false)], args := [d] }
  | _ => none }
def FnMoveAllowedWrongFalsely : Prop := fnMoveAllowedRow.holds Try.pinned (OpenSpec.ofChange fnMoveAllowedWrong)

/-- 'laws.FnExactDoMove': WHATEVER THE INPUT: true; the input reads as it did. -/
def fnExactDoMoveSpec : ChangeSpec := { name := "fnExactDoMove", fn := fun _ => fun
  | [d1, d2] => { results := [.lit (.bool true)], args := [d1, d2] }
  | _ => none }
def fnExactDoMoveRow : OpenClaim := { program := "ytbljkahdhckegaa", sum := "8272d24f7027cb1b2bcb3ddf4846c94efb33bafc3b0360cdd99d7798d4b49157", func := "loop.example/capkernel/laws.FnExactDoMove", spec := "fnExactDoMove", unfollowed := true, recurses := true, apart := false }
def FnExactDoMoveSaid : Prop := fnExactDoMoveRow.holds Try.pinned (OpenSpec.ofChange fnExactDoMoveSpec)

/-- ITS FALSE NEIGHBOUR: 'it returns false'. Refute it at one input. -/
def fnExactDoMoveWrong : ChangeSpec := { name := "fnExactDoMove", fn := fun _ => fun
  | [d1, d2] => { results := [.lit (.bool false)], args := [d1, d2] }
  | _ => none }
def FnExactDoMoveWrongFalsely : Prop := fnExactDoMoveRow.holds Try.pinned (OpenSpec.ofChange fnExactDoMoveWrong)

/-- 'laws.FnMovesTake': WHATEVER THE INPUT: true; the input reads as it did. -/
def fnMovesTakeSpec : ChangeSpec := { name := "fnMovesTake", fn := fun _ => fun
  | [d] => { results := [.lit (.bool true)], args := [d] }
  | _ => none }
def fnMovesTakeRow : OpenClaim := { program := "ytbljkahdhckegaa", sum := "8272d24f7027cb1b2bcb3ddf4846c94efb33bafc3b0360cdd99d7798d4b49157", func := "loop.example/capkernel/laws.FnMovesTake", spec := "fnMovesTake", inPlace := ["internal/abi.NoEscape"], unfollowed := true, recurses := true, apart := false }
def FnMovesTakeSaid : Prop := fnMovesTakeRow.holds Try.pinned (OpenSpec.ofChange fnMovesTakeSpec)

/-- ITS FALSE NEIGHBOUR: 'it returns false'. Refute it at one input. -/
def fnMovesTakeWrong : ChangeSpec := { name := "fnMovesTake", fn := fun _ => fun
  | [d] => { results := [.lit (.bool false)], args := [d] }
  | _ => none }
def FnMovesTakeWrongFalsely : Prop := fnMovesTakeRow.holds Try.pinned (OpenSpec.ofChange fnMovesTakeWrong)

/-- 'laws.FnDoMove': WHATEVER THE INPUT: true; the input reads as it did. -/
def fnDoMoveSpec : ChangeSpec := { name := "fnDoMove", fn := fun _ => fun
  | [d] => { results := [.lit (.bool true)], args := [d] }
  | _ => none }
def fnDoMoveRow : OpenClaim := { program := "ytbljkahdhckegaa", sum := "8272d24f7027cb1b2bcb3ddf4846c94efb33bafc3b0360cdd99d7798d4b49157", func := "loop.example/capkernel/laws.FnDoMove", spec := "fnDoMove", inPlace := ["internal/abi.NoEscape"], unfollowed := true, recurses := true, apart := false }
def FnDoMoveSaid : Prop := fnDoMoveRow.holds Try.pinned (OpenSpec.ofChange fnDoMoveSpec)

/-- ITS FALSE NEIGHBOUR: 'it returns false'. Refute it at one input. -/
def fnDoMoveWrong : ChangeSpec := { name := "fnDoMove", fn := fun _ => fun
  | [d] => { results := [.lit (.bool false)], args := [d] }
  | _ => none }
def FnDoMoveWrongFalsely : Prop := fnDoMoveRow.holds Try.pinned (OpenSpec.ofChange fnDoMoveWrong)

/-- 'laws.FnExactRunMoves': WHATEVER THE INPUT: true; the input reads as it did. -/
def fnExactRunMovesSpec : ChangeSpec := { name := "fnExactRunMoves", fn := fun _ => fun
  | [d1, d2] => { results := [.lit (.bool true)], args := [d1, d2] }
  | _ => none }
def fnExactRunMovesRow : OpenClaim := { program := "ytbljkahdhckegaa", sum := "8272d24f7027cb1b2bcb3ddf4846c94efb33bafc3b0360cdd99d7798d4b49157", func := "loop.example/capkernel/laws.FnExactRunMoves", spec := "fnExactRunMoves", unfollowed := true, recurses := true, apart := false }
def FnExactRunMovesSaid : Prop := fnExactRunMovesRow.holds Try.pinned (OpenSpec.ofChange fnExactRunMovesSpec)

/-- ITS FALSE NEIGHBOUR: 'it returns false'. Refute it at one input. -/
def fnExactRunMovesWrong : ChangeSpec := { name := "fnExactRunMoves", fn := fun _ => fun
  | [d1, d2] => { results := [.lit (.bool false)], args := [d1, d2] }
  | _ => none }
def FnExactRunMovesWrongFalsely : Prop := fnExactRunMovesRow.holds Try.pinned (OpenSpec.ofChange fnExactRunMovesWrong)

/-- 'laws.FnRunMoves': WHATEVER THE INPUT: true; the input reads as it did. -/
def fnRunMovesSpec : ChangeSpec := { name := "fnRunMoves", fn := fun _ => fun
  | [d] => { results := [.lit (.bool true)], args := [d] }
  | _ => none }
def fnRunMovesRow : OpenClaim := { program := "ytbljkahdhckegaa", sum := "8272d24f7027cb1b2bcb3ddf4846c94efb33bafc3b0360cdd99d7798d4b49157", func := "loop.example/capkernel/laws.FnRunMoves", spec := "fnRunMoves", inPlace := ["internal/abi.NoEscape"], unfollowed := true, recurses := true, apart := false }
def FnRunMovesSaid : Prop := fnRunMovesRow.holds Try.pinned (OpenSpec.ofChange fnRunMovesSpec)

/-- ITS FALSE NEIGHBOUR: 'it returns false'. Refute it at one input. -/
def fnRunMovesWrong : ChangeSpec := { name := "fnRunMoves", fn := fun _ => fun
  | [d] => { results := [.lit (.bool false)], args := [d] }
  | _ => none }
def FnRunMovesWrongFalsely : Prop := fnRunMovesRow.holds Try.pinned (OpenSpec.ofChange fnRunMovesWrong)

/- THE SECOND FORM. 'bulk': how many values and letters a reading holds, each counted each time it is reached (what is shared counts as often as it is met; a slice's spare places count too). A statement '..UptoSaid' is the law's where the arguments, and the package variables that the reading takes, are together of bulk at most 1048576: NARROWER than '..Said'. Prove '..Said' where nothing that the law and all that it calls make is longer than what came in: it says more and counts as full. Else prove '..UptoSaid'. A law counts once. -/
mutual
def uptoBulk {H : Type} : DataW H → Nat
  | .lit (.string bytes) => bytes.length + 1
  | .lit _ => 1
  | .nil => 1
  | .ptr d => uptoBulk d + 1
  | .slice elems spare => uptoBulkAll elems + uptoBulkAll spare + 1
  | .agg parts => uptoBulkAll parts + 1
  | .iface _ d => uptoBulk d + 1
  | .map entries => uptoBulkEntries entries + 1
  | .held _ => 1
def uptoBulkAll {H : Type} : List (DataW H) → Nat
  | [] => 0
  | d :: r => uptoBulk d + uptoBulkAll r
def uptoBulkEntries {H : Type} : List (Lit × DataW H) → Nat
  | [] => 0
  | x :: r => uptoBulkEntry x + uptoBulkEntries r
def uptoBulkEntry {H : Type} : Lit × DataW H → Nat
  | (.string bytes, d) => bytes.length + uptoBulk d + 1
  | (_, d) => uptoBulk d + 1
 end
def uptoSmall : (H : Type) → List (DataW H) → Bool := fun _ ds => decide (uptoBulkAll ds ≤ 1048576)
def OpenSpec.upto (s : _root_.Go.ChangeSpec) : _root_.Go.OpenSpec := { _root_.Go.OpenSpec.ofChange s with cond := some uptoSmall }

/-- 'laws.FnExactMoveAllowed', WHERE WHAT IT READS IS OF BULK AT MOST 1048576: true; the input reads as it did. -/
def fnExactMoveAllowedUptoRow : OpenClaim := { program := "ytbljkahdhckegaa", sum := "8272d24f7027cb1b2bcb3ddf4846c94efb33bafc3b0360cdd99d7798d4b49157", func := "loop.example/capkernel/laws.FnExactMoveAllowed", spec := "fnExactMoveAllowed", unfollowed := true, recurses := true, apart := false, narrowed := true }
def FnExactMoveAllowedUptoSaid : Prop := fnExactMoveAllowedUptoRow.holds Try.pinned (OpenSpec.upto fnExactMoveAllowedSpec)

/-- 'laws.FnMoveAllowed', WHERE WHAT IT READS IS OF BULK AT MOST 1048576: true; the input reads as it did. -/
def fnMoveAllowedUptoRow : OpenClaim := { program := "ytbljkahdhckegaa", sum := "8272d24f7027cb1b2bcb3ddf4846c94efb33bafc3b0360cdd99d7798d4b49157", func := "loop.example/capkernel/laws.FnMoveAllowed", spec := "fnMoveAllowed", inPlace := ["internal/abi.NoEscape"], unfollowed := true, recurses := true, apart := false, narrowed := true }
def FnMoveAllowedUptoSaid : Prop := fnMoveAllowedUptoRow.holds Try.pinned (OpenSpec.upto fnMoveAllowedSpec)

/-- 'laws.FnExactDoMove', WHERE WHAT IT READS IS OF BULK AT MOST 1048576: true; the input reads as it did. -/
def fnExactDoMoveUptoRow : OpenClaim := { program := "ytbljkahdhckegaa", sum := "8272d24f7027cb1b2bcb3ddf4846c94efb33bafc3b0360cdd99d7798d4b49157", func := "loop.example/capkernel/laws.FnExactDoMove", spec := "fnExactDoMove", unfollowed := true, recurses := true, apart := false, narrowed := true }
def FnExactDoMoveUptoSaid : Prop := fnExactDoMoveUptoRow.holds Try.pinned (OpenSpec.upto fnExactDoMoveSpec)

/-- 'laws.FnMovesTake', WHERE WHAT IT READS IS OF BULK AT MOST 1048576: true; the input reads as it did. -/
def fnMovesTakeUptoRow : OpenClaim := { program := "ytbljkahdhckegaa", sum := "8272d24f7027cb1b2bcb3ddf4846c94efb33bafc3b0360cdd99d7798d4b49157", func := "loop.example/capkernel/laws.FnMovesTake", spec := "fnMovesTake", inPlace := ["internal/abi.NoEscape"], unfollowed := true, recurses := true, apart := false, narrowed := true }
def FnMovesTakeUptoSaid : Prop := fnMovesTakeUptoRow.holds Try.pinned (OpenSpec.upto fnMovesTakeSpec)

/-- 'laws.FnDoMove', WHERE WHAT IT READS IS OF BULK AT MOST 1048576: true; the input reads as it did. -/
def fnDoMoveUptoRow : OpenClaim := { program := "ytbljkahdhckegaa", sum := "8272d24f7027cb1b2bcb3ddf4846c94efb33bafc3b0360cdd99d7798d4b49157", func := "loop.example/capkernel/laws.FnDoMove", spec := "fnDoMove", inPlace := ["internal/abi.NoEscape"], unfollowed := true, recurses := true, apart := false, narrowed := true }
def FnDoMoveUptoSaid : Prop := fnDoMoveUptoRow.holds Try.pinned (OpenSpec.upto fnDoMoveSpec)

/-- 'laws.FnExactRunMoves', WHERE WHAT IT READS IS OF BULK AT MOST 1048576: true; the input reads as it did. -/
def fnExactRunMovesUptoRow : OpenClaim := { program := "ytbljkahdhckegaa", sum := "8272d24f7027cb1b2bcb3ddf4846c94efb33bafc3b0360cdd99d7798d4b49157", func := "loop.example/capkernel/laws.FnExactRunMoves", spec := "fnExactRunMoves", unfollowed := true, recurses := true, apart := false, narrowed := true }
def FnExactRunMovesUptoSaid : Prop := fnExactRunMovesUptoRow.holds Try.pinned (OpenSpec.upto fnExactRunMovesSpec)

/-- 'laws.FnRunMoves', WHERE WHAT IT READS IS OF BULK AT MOST 1048576: true; the input reads as it did. -/
def fnRunMovesUptoRow : OpenClaim := { program := "ytbljkahdhckegaa", sum := "8272d24f7027cb1b2bcb3ddf4846c94efb33bafc3b0360cdd99d7798d4b49157", func := "loop.example/capkernel/laws.FnRunMoves", spec := "fnRunMoves", inPlace := ["internal/abi.NoEscape"], unfollowed := true, recurses := true, apart := false, narrowed := true }
def FnRunMovesUptoSaid : Prop := fnRunMovesUptoRow.holds Try.pinned (OpenSpec.upto fnRunMovesSpec)

end Rows
end Go.Proofs.Ytbljkahdhckegaa
