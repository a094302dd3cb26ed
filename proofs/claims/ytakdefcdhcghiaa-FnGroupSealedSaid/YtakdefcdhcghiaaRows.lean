/-
  No cell of these rows narrows 'for every input' (looked for: loops, veiled, ifaces, maps, wideKeys, modest, calm, conditions, laid).
  DERIVED. THE GIVEN ROWS OF THIS SEAT. 6 by the template 'for every input the law returns true; each argument reads behind the call as it read before'; 0 by the template 'total and deterministic' (their statements: YtakdefcdhcghiaaTotals.lean).
  GIVEN WITH THE SEED: the statements are not yours to turn. If you find one false, say at which input.
  Laid BY PROGRAM, IN A SANDBOX (cutbox-rows.mjs): the forced cells as the released guide's own fill.sh prints them over the translation b6fccf07432d41c7… (all of the seat's roots in one cut). By AI agents, Wed Nov 11 2026. No macro, syntax, notation, axiom, sorry.
-/
import Derived.Test.YtakdefcdhcghiaaChecked
import GoSem.Claim
import GoSem.ClaimJoined
import GoSem.ClaimMapViews
import Derived.JoinedTies
import Derived.KernelRfl
namespace Go.Proofs.Ytakdefcdhcghiaa
/- THE CELL 'sum', in the pinned program and in every row, IS THE sha256 OF THE DUMP (.gsa) THAT YtakdefcdhcghiaaProg.lean LOADS. Nothing in Lean hashes anything: it is a label: what it is worth is what the hold of that sum in a sandbox is worth. -/
noncomputable def Try.pinned : Pinned := { name := "ytakdefcdhcghiaa", sum := "b6fccf07432d41c71d09df4e10075ba675e3073986f0dbc149e02b2265d48b24", checked := Try.checked }
namespace Rows
def none {H : Type} : Left H := { results := [], args := [] }

/-- 'laws.FnExactGroupSealed': WHATEVER THE INPUT: true; the input reads as it did. -/
def fnExactGroupSealedSpec : ChangeSpec := { name := "fnExactGroupSealed", fn := fun _ => fun
  | [d1, d2] => { results := [.lit (.bool true)], args := [d1, d2] }
  | _ => none }
def fnExactGroupSealedRow : OpenClaim := { program := "ytakdefcdhcghiaa", sum := "b6fccf07432d41c71d09df4e10075ba675e3073986f0dbc149e02b2265d48b24", func := "loop.example/capkernel/laws.FnExactGroupSealed", spec := "fnExactGroupSealed", unfollowed := true, recurses := true, apart := false }
def FnExactGroupSealedSaid : Prop := fnExactGroupSealedRow.holds Try.pinned (OpenSpec.ofChange fnExactGroupSealedSpec)

/-- ITS FALSE NEIGHBOUR: 'it returns false'. Refute it at one input. -/
def fnExactGroupSealedWrong : ChangeSpec := { name := "fnExactGroupSealed", fn := fun _ => fun
  | [d1, d2] => { results := [.lit (.bool false)], args := [d1, d2] }
  | _ => none }
def FnExactGroupSealedWrongFalsely : Prop := fnExactGroupSealedRow.holds Try.pinned (OpenSpec.ofChange fnExactGroupSealedWrong)

/-- 'laws.FnExactSealedGroup': WHATEVER THE INPUT: true; the input reads as it did. -/
def fnExactSealedGroupSpec : ChangeSpec := { name := "fnExactSealedGroup", fn := fun _ => fun
  | [d1, d2] => { results := [.lit (.bool true)], args := [d1, d2] }
  | _ => none }
def fnExactSealedGroupRow : OpenClaim := { program := "ytakdefcdhcghiaa", sum := "b6fccf07432d41c71d09df4e10075ba675e3073986f0dbc149e02b2265d48b24", func := "loop.example/capkernel/laws.FnExactSealedGroup", spec := "fnExactSealedGroup", unfollowed := true, recurses := true, apart := false }
def FnExactSealedGroupSaid : Prop := fnExactSealedGroupRow.holds Try.pinned (OpenSpec.ofChange fnExactSealedGroupSpec)

/-- ITS FALSE NEIGHBOUR: 'it returns false'. Refute it at one input. -/
def fnExactSealedGroupWrong : ChangeSpec := { name := "fnExactSealedGroup", fn := fun _ => fun
  | [d1, d2] => { results := [.lit (.bool false)], args := [d1, d2] }
  | _ => none }
def FnExactSealedGroupWrongFalsely : Prop := fnExactSealedGroupRow.holds Try.pinned (OpenSpec.ofChange fnExactSealedGroupWrong)

/-- 'laws.FnSealedGroup': WHATEVER THE INPUT: true; the input reads as it did. -/
def fnSealedGroupSpec : ChangeSpec := { name := "fnSealedGroup", fn := fun _ => fun
  | [d] => { results := [.lit (.bool true)], args := [d] }
  | _ => none }
def fnSealedGroupRow : OpenClaim := { program := "ytakdefcdhcghiaa", sum := "b6fccf07432d41c71d09df4e10075ba675e3073986f0dbc149e02b2265d48b24", func := "loop.example/capkernel/laws.FnSealedGroup", spec := "fnSealedGroup", inPlace := ["internal/abi.NoEscape"], unfollowed := true, recurses := true, apart := false }
def FnSealedGroupSaid : Prop := fnSealedGroupRow.holds Try.pinned (OpenSpec.ofChange fnSealedGroupSpec)

/-- ITS FALSE NEIGHBOUR: 'it returns false'. Refute it at one input. -/
def fnSealedGroupWrong : ChangeSpec := { name := "fnSealedGroup", fn := fun _ => fun
  | [d] => { results := [.lit (.bool false)], args := [d] }
  | _ => none }
def FnSealedGroupWrongFalsely : Prop := fnSealedGroupRow.holds Try.pinned (OpenSpec.ofChange fnSealedGroupWrong)

/-- 'laws.FnExactLeakRounds': WHATEVER THE INPUT: true; the input reads as it did. -/
def fnExactLeakRoundsSpec : ChangeSpec := { name := "fnExactLeakRounds", fn := fun _ => fun
  | [d1, d2, d3, d4] => { results := [.lit (.bool true)], args := [d1, d2, d3, d4] }
  | _ => none }
def fnExactLeakRoundsRow : OpenClaim := { program := "ytakdefcdhcghiaa", sum := "b6fccf07432d41c71d09df4e10075ba675e3073986f0dbc149e02b2265d48b24", func := "loop.example/capkernel/laws.FnExactLeakRounds", spec := "fnExactLeakRounds", unfollowed := true, recurses := true, apart := false }
def FnExactLeakRoundsSaid : Prop := fnExactLeakRoundsRow.holds Try.pinned (OpenSpec.ofChange fnExactLeakRoundsSpec)

/-- ITS FALSE NEIGHBOUR: 'it returns false'. Refute it at one input. -/
def fnExactLeakRoundsWrong : ChangeSpec := { name := "fnExactLeakRounds", fn := fun _ => fun
  | [d1, d2, d3, d4] => { results := [.lit (.bool false)], args := [d1, d2, d3, d4] }
  | _ => none }
def FnExactLeakRoundsWrongFalsely : Prop := fnExactLeakRoundsRow.holds Try.pinned (OpenSpec.ofChange fnExactLeakRoundsWrong)

/-- 'laws.FnGroupSealed': WHATEVER THE INPUT: true; the input reads as it did. -/
def fnGroupSealedSpec : ChangeSpec := { name := "fnGroupSealed", fn := fun _ => fun
  | [d] => { results := [.lit (.bool true)], args := [d] }
  | _ => none }
def fnGroupSealedRow : OpenClaim := { program := "ytakdefcdhcghiaa", sum := "b6fccf07432d41c71d09df4e10075ba675e3073986f0dbc149e02b2265d48b24", func := "loop.example/capkernel/laws.FnGroupSealed", spec := "fnGroupSealed", inPlace := ["internal/abi.NoEscape"], unfollowed := true, recurses := true, apart := false }
def FnGroupSealedSaid : Prop := fnGroupSealedRow.holds Try.pinned (OpenSpec.ofChange fnGroupSealedSpec)

/-- ITS FALSE NEIGHBOUR: 'it returns false'. Refute it at one input. -/
def fnGroupSealedWrong : ChangeSpec := { name := "fnGroupSealed", fn := fun _ => fun
  | [d] => { results := [.lit (.bool false)], args := [d] }
  | _ => none }
def FnGroupSealedWrongFalsely : Prop := fnGroupSealedRow.holds Try.pinned (OpenSpec.ofChange fnGroupSealedWrong)

/-- 'laws.FnLeakRounds': WHATEVER THE INPUT: true; the input reads as it did. -/
def fnLeakRoundsSpec : ChangeSpec := { name := "fnLeakRounds", fn := fun _ => fun
  | [d] => { results := [.lit (.bool true)], args := [d] }
  | _ => none }
def fnLeakRoundsRow : OpenClaim := { program := "ytakdefcdhcghiaa", sum := "b6fccf07432d41c71d09df4e10075ba675e3073986f0dbc149e02b2265d48b24", func := "loop.example/capkernel/laws.FnLeakRounds", spec := "fnLeakRounds", inPlace := ["internal/abi.NoEscape"], unfollowed := true, recurses := true, apart := false }
def FnLeakRoundsSaid : Prop := fnLeakRoundsRow.holds Try.pinned (OpenSpec.ofChange fnLeakRoundsSpec)

/-- ITS FALSE NEIGHBOUR: 'it returns false'. Refute it at one input. -/
def fnLeakRoundsWrong : ChangeSpec := { name := "fnLeakRounds", fn := fun _ => fun
  | [d] => { results := [.lit (.bool false)], args := [d] }
  | _ => none }
def FnLeakRoundsWrongFalsely : Prop := fnLeakRoundsRow.holds Try.pinned (OpenSpec.ofChange fnLeakRoundsWrong)

/- THE SECOND FORM. 'bulk': how many values and letters a reading holds, each counted each time it is reached (what is shared counts as often as it is met; a slice's spare places count too). A statement '..UptoSaid' is the law's where the arguments, and the package variables that the reading takes, are together of bulk at most 1048576: NARROWER than '..Said'. Prove '..Said' where nothing that the law and all that it calls make is longer than what came in: it says more and counts as full. Else prove '..UptoSaid'. A law counts once. -/
mutual
def uptoBulk {H : Type} : DataW H → Nat
  | .lit (.string bytes) => bytes.length + 1
  | .lit _ => 1
  | .nil => 1
  | .ptr d => uptoBulk d + 1
  | .slice elems spare => uptoBulkAll elems + uptoBulkAll spare + 1
  | .agg parts => uptoBulkAll parts + 1
  | .iface _ d => uptoBulk d + 1
  | .map entries => uptoBulkEntries entries + 1
  | .held _ => 1
def uptoBulkAll {H : Type} : List (DataW H) → Nat
  | [] => 0
  | d :: r => uptoBulk d + uptoBulkAll r
def uptoBulkEntries {H : Type} : List (Lit × DataW H) → Nat
  | [] => 0
  | x :: r => uptoBulkEntry x + uptoBulkEntries r
def uptoBulkEntry {H : Type} : Lit × DataW H → Nat
  | (.string bytes, d) => bytes.length + uptoBulk d + 1
  | (_, d) => uptoBulk d + 1
 end
def uptoSmall : (H : Type) → List (DataW H) → Bool := fun _ ds => decide (uptoBulkAll ds ≤ 1048576)
def OpenSpec.upto (s : _root_.Go.ChangeSpec) : _root_.Go.OpenSpec := { _root_.Go.OpenSpec.ofChange s with cond := some uptoSmall }

/-- 'laws.FnExactGroupSealed', WHERE WHAT IT READS IS OF BULK AT MOST 1048576: true; the input reads as it did. -/
def fnExactGroupSealedUptoRow : OpenClaim := { program := "ytakdefcdhcghiaa", sum := "b6fccf07432d41c71d09df4e10075ba675e3073986f0dbc149e02b2265d48b24", func := "loop.example/capkernel/laws.FnExactGroupSealed", spec := "fnExactGroupSealed", unfollowed := true, recurses := true, apart := false, narrowed := true }
def FnExactGroupSealedUptoSaid : Prop := fnExactGroupSealedUptoRow.holds Try.pinned (OpenSpec.upto fnExactGroupSealedSpec)

/-- 'laws.FnExactSealedGroup', WHERE WHAT IT READS IS OF BULK AT MOST 1048576: true; the input reads as it did. -/
def fnExactSealedGroupUptoRow : OpenClaim := { program := "ytakdefcdhcghiaa", sum := "b6fccf07432d41c71d09df4e10075ba675e3073986f0dbc149e02b2265d48b24", func := "loop.example/capkernel/laws.FnExactSealedGroup", spec := "fnExactSealedGroup", unfollowed := true, recurses := true, apart := false, narrowed := true }
def FnExactSealedGroupUptoSaid : Prop := fnExactSealedGroupUptoRow.holds Try.pinned (OpenSpec.upto fnExactSealedGroupSpec)

/-- 'laws.FnSealedGroup', WHERE WHAT IT READS IS OF BULK AT MOST 1048576: true; the input reads as it did. -/
def fnSealedGroupUptoRow : OpenClaim := { program := "ytakdefcdhcghiaa", sum := "b6fccf07432d41c71d09df4e10075ba675e3073986f0dbc149e02b2265d48b24", func := "loop.example/capkernel/laws.FnSealedGroup", spec := "fnSealedGroup", inPlace := ["internal/abi.NoEscape"], unfollowed := true, recurses := true, apart := false, narrowed := true }
def FnSealedGroupUptoSaid : Prop := fnSealedGroupUptoRow.holds Try.pinned (OpenSpec.upto fnSealedGroupSpec)

/-- 'laws.FnExactLeakRounds', WHERE WHAT IT READS IS OF BULK AT MOST 1048576: true; the input reads as it did. -/
def fnExactLeakRoundsUptoRow : OpenClaim := { program := "ytakdefcdhcghiaa", sum := "b6fccf07432d41c71d09df4e10075ba675e3073986f0dbc149e02b2265d48b24", func := "loop.example/capkernel/laws.FnExactLeakRounds", spec := "fnExactLeakRounds", unfollowed := true, recurses := true, apart := false, narrowed := true }
def FnExactLeakRoundsUptoSaid : Prop := fnExactLeakRoundsUptoRow.holds Try.pinned (OpenSpec.upto fnExactLeakRoundsSpec)

/-- 'laws.FnGroupSealed', WHERE WHAT IT READS IS OF BULK AT MOST 1048576: true; the input reads as it did. -/
def fnGroupSealedUptoRow : OpenClaim := { program := "ytakdefcdhcghiaa", sum := "b6fccf07432d41c71d09df4e10075ba675e3073986f0dbc149e02b2265d48b24", func := "loop.example/capkernel/laws.FnGroupSealed", spec := "fnGroupSealed", inPlace := ["internal/abi.NoEscape"], unfollowed := true, recurses := true, apart := false, narrowed := true }
def FnGroupSealedUptoSaid : Prop := fnGroupSealedUptoRow.holds Try.pinned (OpenSpec.upto fnGroupSealedSpec)

/-- 'laws.FnLeakRounds', WHERE WHAT IT READS IS OF BULK AT MOST 1048576: true; the input reads as it did. -/
def fnLeakRoundsUptoRow : OpenClaim := { program := "ytakdefcdhcghiaa", sum := "b6fccf07432d41c71d09df4e10075ba675e3073986f0dbc149e02b2265d48b24", func := "loop.example/capkernel/laws.FnLeakRounds", spec := "fnLeakRounds", inPlace := ["internal/abi.NoEscape"], unfollowed := true, recurses := true, apart := false, narrowed := true }
def FnLeakRoundsUptoSaid : Prop := fnLeakRoundsUptoRow.holds Try.pinned (OpenSpec.upto fnLeakRoundsSpec)

end Rows
end Go.Proofs.Ytakdefcdhcghiaa
