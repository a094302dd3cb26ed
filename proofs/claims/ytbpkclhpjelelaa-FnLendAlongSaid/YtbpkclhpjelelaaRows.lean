/-
  No cell of these rows narrows 'for every input' (looked for: loops, veiled, ifaces, maps, wideKeys, modest, calm, conditions, laid).
  DERIVED. THE GIVEN ROWS OF THIS SEAT. 6 by the template 'for every input the law returns true; each argument reads behind the call as it read before'; 0 by the template 'total and deterministic' (their statements: YtbpkclhpjelelaaTotals.lean).
  GIVEN WITH THE SEED: the statements are not yours to turn. If you find one false, say at which input.
  Laid BY PROGRAM, IN A SANDBOX (cutbox-rows.mjs): the forced cells as the released guide's own fill.sh prints them over the translation b4fb20c2caec2769… (all of the seat's roots in one cut). By AI agents, Wed Nov 11 2026. No macro, syntax, notation, axiom, sorry.
-/
import Derived.Test.YtbpkclhpjelelaaChecked
import GoSem.Claim
import GoSem.ClaimJoined
import GoSem.ClaimMapViews
import Derived.JoinedTies
import Derived.KernelRfl
namespace Go.Proofs.Ytbpkclhpjelelaa
/- THE CELL 'sum', in the pinned program and in every row, IS THE sha256 OF THE DUMP (.gsa) THAT YtbpkclhpjelelaaProg.lean LOADS. Nothing in Lean hashes anything: it is a label: what it is worth is what the hold of that sum in a sandbox is worth. -/
noncomputable def Try.pinned : Pinned := { name := "ytbpkclhpjelelaa", sum := "b4fb20c2caec2769d38eede1583e0e5acd3b99a0cda6ad5e48beca0c56d63930", checked := Try.checked }
namespace Rows
def none {H : Type} : Left H := { results := [], args := [] }

/-- 'laws.FnTimesValid': WHATEVER THE INPUT: true; the input reads as it did. -/
def fnTimesValidSpec : ChangeSpec := { name := "fnTimesValid", fn := fun _ => fun
  | [d] => { results := [.lit (.bool true)], args := [d] }
  | _ => none }
def fnTimesValidRow : OpenClaim := { program := "ytbpkclhpjelelaa", sum := "b4fb20c2caec2769d38eede1583e0e5acd3b99a0cda6ad5e48beca0c56d63930", func := "loop.example/capkernel/laws.FnTimesValid", spec := "fnTimesValid", inPlace := ["internal/abi.NoEscape"], unfollowed := true, recurses := true, apart := false }
def FnTimesValidSaid : Prop := fnTimesValidRow.holds Try.pinned (OpenSpec.ofChange fnTimesValidSpec)

/-- ITS FALSE NEIGHBOUR: 'it returns false'. Refute it at one input. -/
def fnTimesValidWrong : ChangeSpec := { name := "fnTimesValid", fn := fun _ => fun
  | [d] => { results := [.lit (.bool false)], args := [d] }
  | _ => none }
def FnTimesValidWrongFalsely : Prop := fnTimesValidRow.holds Try.pinned (OpenSpec.ofChange fnTimesValidWrong)

/-- 'laws.FnTimeRing': WHATEVER THE INPUT: true; the input reads as it did. -/
def fnTimeRingSpec : ChangeSpec := { name := "fnTimeRing", fn := fun _ => fun
  | [d1, d2] => { results := [.lit (.bool true)], args := [d1, d2] }
  | _ => none }
def fnTimeRingRow : OpenClaim := { program := "ytbpkclhpjelelaa", sum := "b4fb20c2caec2769d38eede1583e0e5acd3b99a0cda6ad5e48beca0c56d63930", func := "loop.example/capkernel/laws.FnTimeRing", spec := "fnTimeRing", inPlace := ["internal/abi.NoEscape"], unfollowed := true, recurses := true, apart := false }
def FnTimeRingSaid : Prop := fnTimeRingRow.holds Try.pinned (OpenSpec.ofChange fnTimeRingSpec)

/-- ITS FALSE NEIGHBOUR: 'it returns false'. Refute it at one input. -/
def fnTimeRingWrong : ChangeSpec := { name := "fnTimeRing", fn := fun _ => fun
  | [d1, d2] => { results := [.lit (.bool false)], args := [d1, d2] }
  | _ => none }
def FnTimeRingWrongFalsely : Prop := fnTimeRingRow.holds Try.pinned (OpenSpec.ofChange fnTimeRingWrong)

/-- 'laws.FnExactLendAlong': WHATEVER THE INPUT: true; the input reads as it did. -/
def fnExactLendAlongSpec : ChangeSpec := { name := "fnExactLendAlong", fn := fun _ => fun
  | [d1, d2] => { results := [.lit (.bool true)], args := [d1, d2] }
  | _ => none }
def fnExactLendAlongRow : OpenClaim := { program := "ytbpkclhpjelelaa", sum := "b4fb20c2caec2769d38eede1583e0e5acd3b99a0cda6ad5e48beca0c56d63930", func := "loop.example/capkernel/laws.FnExactLendAlong", spec := "fnExactLendAlong", unfollowed := true, recurses := true, apart := false }
def FnExactLendAlongSaid : Prop := fnExactLendAlongRow.holds Try.pinned (OpenSpec.ofChange fnExactLendAlongSpec)

/-- ITS FALSE NEIGHBOUR: 'it returns false'. Refute it at one input. -/
def fnExactLendAlongWrong : ChangeSpec := { name := "fnExactLendAlong", fn := fun _ => fun
  | [d1, d2] => { results := [.lit (.bool false)], args := [d1, d2] }
  | _ => none }
def FnExactLendAlongWrongFalsely : Prop := fnExactLendAlongRow.holds Try.pinned (OpenSpec.ofChange fnExactLendAlongWrong)

/-- 'laws.FnUseTime': WHATEVER THE INPUT: true; the input reads as it did. -/
def fnUseTimeSpec : ChangeSpec := { name := "fnUseTime", fn := fun _ => fun
  | [d] => { results := [.lit (.bool true)], args := [d] }
  | _ => none }
def fnUseTimeRow : OpenClaim := { program := "ytbpkclhpjelelaa", sum := "b4fb20c2caec2769d38eede1583e0e5acd3b99a0cda6ad5e48beca0c56d63930", func := "loop.example/capkernel/laws.FnUseTime", spec := "fnUseTime", inPlace := ["internal/abi.NoEscape"], unfollowed := true, recurses := true, apart := false }
def FnUseTimeSaid : Prop := fnUseTimeRow.holds Try.pinned (OpenSpec.ofChange fnUseTimeSpec)

/-- ITS FALSE NEIGHBOUR: 'it returns false'. Refute it at one input. -/
def fnUseTimeWrong : ChangeSpec := { name := "fnUseTime", fn := fun _ => fun
  | [d] => { results := [.lit (.bool false)], args := [d] }
  | _ => none }
def FnUseTimeWrongFalsely : Prop := fnUseTimeRow.holds Try.pinned (OpenSpec.ofChange fnUseTimeWrong)

/-- 'laws.FnLendTime': WHATEVER THE INPUT: true; the input reads as it did. -/
def fnLendTimeSpec : ChangeSpec := { name := "fnLendTime", fn := fun _ => fun
  | [d] => { results := [.lit (.bool true)], args := [d] }
  | _ => none }
def fnLendTimeRow : OpenClaim := { program := "ytbpkclhpjelelaa", sum := "b4fb20c2caec2769d38eede1583e0e5acd3b99a0cda6ad5e48beca0c56d63930", func := "loop.example/capkernel/laws.FnLendTime", spec := "fnLendTime", inPlace := ["internal/abi.NoEscape"], unfollowed := true, recurses := true, apart := false }
def FnLendTimeSaid : Prop := fnLendTimeRow.holds Try.pinned (OpenSpec.ofChange fnLendTimeSpec)

/-- ITS FALSE NEIGHBOUR: 'it returns false'. Refute it at one input. -/
def fnLendTimeWrong : ChangeSpec := { name := "fnLendTime", fn := fun _ => fun
  | [d] => { results := [.lit (.bool false)], args := [d] }
  | _ => none }
def FnLendTimeWrongFalsely : Prop := fnLendTimeRow.holds Try.pinned (OpenSpec.ofChange fnLendTimeWrong)

/-- 'laws.FnLendAlong': WHATEVER THE INPUT: true; the input reads as it did. -/
def fnLendAlongSpec : ChangeSpec := { name := "fnLendAlong", fn := fun _ => fun
  | [d] => { results := [.lit (.bool true)], args := [d] }
  | _ => none }
def fnLendAlongRow : OpenClaim := { program := "ytbpkclhpjelelaa", sum := "b4fb20c2caec2769d38eede1583e0e5acd3b99a0cda6ad5e48beca0c56d63930", func := "loop.example/capkernel/laws.FnLendAlong", spec := "fnLendAlong", inPlace := ["internal/abi.NoEscape"], unfollowed := true, recurses := true, apart := false }
def FnLendAlongSaid : Prop := fnLendAlongRow.holds Try.pinned (OpenSpec.ofChange fnLendAlongSpec)

/-- ITS FALSE NEIGHBOUR: 'it returns false'. Refute it at one input. -/
def fnLendAlongWrong : ChangeSpec := { name := "fnLendAlong", fn := fun _ => fun
  | [d] => { results := [.lit (.bool false)], args := [d] }
  | _ => none }
def FnLendAlongWrongFalsely : Prop := fnLendAlongRow.holds Try.pinned (OpenSpec.ofChange fnLendAlongWrong)

/- THE SECOND FORM. 'bulk': how many values and letters a reading holds, each counted each time it is reached (what is shared counts as often as it is met; a slice's spare places count too). A statement '..UptoSaid' is the law's where the arguments, and the package variables that the reading takes, are together of bulk at most 1048576: NARROWER than '..Said'. Prove '..Said' where nothing that the law and all that it calls make is longer than what came in: it says more and counts as full. Else prove '..UptoSaid'. A law counts once. -/
mutual
def uptoBulk {H : Type} : DataW H → Nat
  | .lit (.string bytes) => bytes.length + 1
  | .lit _ => 1
  | .nil => 1
  | .ptr d => uptoBulk d + 1
  | .slice elems spare => uptoBulkAll elems + uptoBulkAll spare + 1
  | .agg parts => uptoBulkAll parts + 1
  | .iface _ d => uptoBulk d + 1
  | .map entries => uptoBulkEntries entries + 1
  | .held _ => 1
def uptoBulkAll {H : Type} : List (DataW H) → Nat
  | [] => 0
  | d :: r => uptoBulk d + uptoBulkAll r
def uptoBulkEntries {H : Type} : List (Lit × DataW H) → Nat
  | [] => 0
  | x :: r => uptoBulkEntry x + uptoBulkEntries r
def uptoBulkEntry {H : Type} : Lit × DataW H → Nat
  | (.string bytes, d) => bytes.length + uptoBulk d + 1
  | (_, d) => uptoBulk d + 1
 end
def uptoSmall : (H : Type) → List (DataW H) → Bool := fun _ ds => decide (uptoBulkAll ds ≤ 1048576)
def OpenSpec.upto (s : _root_.Go.ChangeSpec) : _root_.Go.OpenSpec := { _root_.Go.OpenSpec.ofChange s with cond := some uptoSmall }

/-- 'laws.FnTimesValid', WHERE WHAT IT READS IS OF BULK AT MOST 1048576: true; the input reads as it did. -/
def fnTimesValidUptoRow : OpenClaim := { program := "ytbpkclhpjelelaa", sum := "b4fb20c2caec2769d38eede1583e0e5acd3b99a0cda6ad5e48beca0c56d63930", func := "loop.example/capkernel/laws.FnTimesValid", spec := "fnTimesValid", inPlace := ["internal/abi.NoEscape"], unfollowed := true, recurses := true, apart := false, narrowed := true }
def FnTimesValidUptoSaid : Prop := fnTimesValidUptoRow.holds Try.pinned (OpenSpec.upto fnTimesValidSpec)

/-- 'laws.FnTimeRing', WHERE WHAT IT READS IS OF BULK AT MOST 1048576: true; the input reads as it did. -/
def fnTimeRingUptoRow : OpenClaim := { program := "ytbpkclhpjelelaa", sum := "b4fb20c2caec2769d38eede1583e0e5acd3b99a0cda6ad5e48beca0c56d63930", func := "loop.example/capkernel/laws.FnTimeRing", spec := "fnTimeRing", inPlace := ["internal/abi.NoEscape"], unfollowed := true, recurses := true, apart := false, narrowed := true }
def FnTimeRingUptoSaid : Prop := fnTimeRingUptoRow.holds Try.pinned (OpenSpec.upto fnTimeRingSpec)

/-- 'laws.FnExactLendAlong', WHERE WHAT IT READS IS OF BULK AT MOST 1048576: true; the input reads as it did. -/
def fnExactLendAlongUptoRow : OpenClaim := { program := "ytbpkclhpjelelaa", sum := "b4fb20c2caec2769d38eede1583e0e5acd3b99a0cda6ad5e48beca0c56d63930", func := "loop.example/capkernel/laws.FnExactLendAlong", spec := "fnExactLendAlong", unfollowed := true, recurses := true, apart := false, narrowed := true }
def FnExactLendAlongUptoSaid : Prop := fnExactLendAlongUptoRow.holds Try.pinned (OpenSpec.upto fnExactLendAlongSpec)

/-- 'laws.FnUseTime', WHERE WHAT IT READS IS OF BULK AT MOST 1048576: true; the input reads as it did. -/
def fnUseTimeUptoRow : OpenClaim := { program := "ytbpkclhpjelelaa", sum := "b4fb20c2caec2769d38eede1583e0e5acd3b99a0cda6ad5e48beca0c56d63930", func := "loop.example/capkernel/laws.FnUseTime", spec := "fnUseTime", inPlace := ["internal/abi.NoEscape"], unfollowed := true, recurses := true, apart := false, narrowed := true }
def FnUseTimeUptoSaid : Prop := fnUseTimeUptoRow.holds Try.pinned (OpenSpec.upto fnUseTimeSpec)

/-- 'laws.FnLendTime', WHERE WHAT IT READS IS OF BULK AT MOST 1048576: true; the input reads as it did. -/
def fnLendTimeUptoRow : OpenClaim := { program := "ytbpkclhpjelelaa", sum := "b4fb20c2caec2769d38eede1583e0e5acd3b99a0cda6ad5e48beca0c56d63930", func := "loop.example/capkernel/laws.FnLendTime", spec := "fnLendTime", inPlace := ["internal/abi.NoEscape"], unfollowed := true, recurses := true, apart := false, narrowed := true }
def FnLendTimeUptoSaid : Prop := fnLendTimeUptoRow.holds Try.pinned (OpenSpec.upto fnLendTimeSpec)

/-- 'laws.FnLendAlong', WHERE WHAT IT READS IS OF BULK AT MOST 1048576: true; the input reads as it did. -/
def fnLendAlongUptoRow : OpenClaim := { program := "ytbpkclhpjelelaa", sum := "b4fb20c2caec2769d38eede1583e0e5acd3b99a0cda6ad5e48beca0c56d63930", func := "loop.example/capkernel/laws.FnLendAlong", spec := "fnLendAlong", inPlace := ["internal/abi.NoEscape"], unfollowed := true, recurses := true, apart := false, narrowed := true }
def FnLendAlongUptoSaid : Prop := fnLendAlongUptoRow.holds Try.pinned (OpenSpec.upto fnLendAlongSpec)

end Rows
end Go.Proofs.Ytbpkclhpjelelaa
