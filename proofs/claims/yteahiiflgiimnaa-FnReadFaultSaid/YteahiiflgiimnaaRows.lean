/-
  No cell of these rows narrows 'for every input' (looked for: loops, veiled, ifaces, maps, wideKeys, modest, calm, conditions, laid).
  DERIVED. THE GIVEN ROWS OF THIS SEAT. 9 by the template 'for every input the law returns true; each argument reads behind the call as it read before'; 0 by the template 'total and deterministic' (their statements: YteahiiflgiimnaaTotals.lean).
  GIVEN WITH THE SEED: the statements are not yours to turn. If you find one false, say at which input.
  Laid BY PROGRAM, IN A SANDBOX (cutbox-rows.mjs): the forced cells as the released guide's own fill.sh prints them over the translation 460379c677e6ed6f… (all of the seat's roots in one cut). By AI agents, Wed Nov 11 2026. No macro, syntax, notation, axiom, sorry.
-/
import Derived.Test.YteahiiflgiimnaaChecked
import GoSem.Claim
import GoSem.ClaimJoined
import GoSem.ClaimMapViews
import Derived.JoinedTies
import Derived.KernelRfl
namespace Go.Proofs.Yteahiiflgiimnaa
/- THE CELL 'sum', in the pinned program and in every row, IS THE sha256 OF THE DUMP (.gsa) THAT YteahiiflgiimnaaProg.lean LOADS. Nothing in Lean hashes anything: it is a label: what it is worth is what the hold of that sum in a sandbox is worth. -/
noncomputable def Try.pinned : Pinned := { name := "yteahiiflgiimnaa", sum := "460379c677e6ed6f5bc67d3cfcaab3aabda88d54f7eadf7722a7b15f55a82165", checked := Try.checked }
namespace Rows
def none {H : Type} : Left H := { results := [], args := [] }

/-- 'laws.FnExactRepairFault': WHATEVER THE INPUT: true; the input reads as it did. -/
def fnExactRepairFaultSpec : ChangeSpec := { name := "fnExactRepairFault", fn := fun _ => fun
  | [d1, d2, d3] => { results := [.lit (.bool true)], args := [d1, d2, d3] }
  | _ => none }
def fnExactRepairFaultRow : OpenClaim := { program := "yteahiiflgiimnaa", sum := "460379c677e6ed6f5bc67d3cfcaab3aabda88d54f7eadf7722a7b15f55a82165", func := "loop.example/capkernel/laws.FnExactRepairFault", spec := "fnExactRepairFault", inPlace := ["slices.overlaps[loop.example/capkernel/impl.Mapping]"], apart := false }
def FnExactRepairFaultSaid : Prop := fnExactRepairFaultRow.holds Try.pinned (OpenSpec.ofChange fnExactRepairFaultSpec)

/-- ITS FALSE NEIGHBOUR: 'it returns false'. Refute it at one input. -/
def fnExactRepairFaultWrong : ChangeSpec := { name := "fnExactRepairFault", fn := fun _ => fun
  | [d1, d2, d3] => { results := [.lit (.bool false)], args := [d1, d2, d3] }
  | _ => none }
def FnExactRepairFaultWrongFalsely : Prop := fnExactRepairFaultRow.holds Try.pinned (OpenSpec.ofChange fnExactRepairFaultWrong)

/-- 'laws.FnExactFaultOf': WHATEVER THE INPUT: true; the input reads as it did. -/
def fnExactFaultOfSpec : ChangeSpec := { name := "fnExactFaultOf", fn := fun _ => fun
  | [d1, d2, d3] => { results := [.lit (.bool true)], args := [d1, d2, d3] }
  | _ => none }
def fnExactFaultOfRow : OpenClaim := { program := "yteahiiflgiimnaa", sum := "460379c677e6ed6f5bc67d3cfcaab3aabda88d54f7eadf7722a7b15f55a82165", func := "loop.example/capkernel/laws.FnExactFaultOf", spec := "fnExactFaultOf", apart := false }
def FnExactFaultOfSaid : Prop := fnExactFaultOfRow.holds Try.pinned (OpenSpec.ofChange fnExactFaultOfSpec)

/-- ITS FALSE NEIGHBOUR: 'it returns false'. Refute it at one input. -/
def fnExactFaultOfWrong : ChangeSpec := { name := "fnExactFaultOf", fn := fun _ => fun
  | [d1, d2, d3] => { results := [.lit (.bool false)], args := [d1, d2, d3] }
  | _ => none }
def FnExactFaultOfWrongFalsely : Prop := fnExactFaultOfRow.holds Try.pinned (OpenSpec.ofChange fnExactFaultOfWrong)

/-- 'laws.FnFaultHealed': WHATEVER THE INPUT: true; the input reads as it did. -/
def fnFaultHealedSpec : ChangeSpec := { name := "fnFaultHealed", fn := fun _ => fun
  | [d] => { results := [.lit (.bool true)], args := [d] }
  | _ => none }
def fnFaultHealedRow : OpenClaim := { program := "yteahiiflgiimnaa", sum := "460379c677e6ed6f5bc67d3cfcaab3aabda88d54f7eadf7722a7b15f55a82165", func := "loop.example/capkernel/laws.FnFaultHealed", spec := "fnFaultHealed", inPlace := ["internal/abi.NoEscape", "slices.overlaps[loop.example/capkernel/impl.Mapping]"], apart := false }
def FnFaultHealedSaid : Prop := fnFaultHealedRow.holds Try.pinned (OpenSpec.ofChange fnFaultHealedSpec)

/-- ITS FALSE NEIGHBOUR: 'it returns false'. Refute it at one input. -/
def fnFaultHealedWrong : ChangeSpec := { name := "fnFaultHealed", fn := fun _ => fun
  | [d] => { results := [.lit (.bool false)], args := [d] }
  | _ => none }
def FnFaultHealedWrongFalsely : Prop := fnFaultHealedRow.holds Try.pinned (OpenSpec.ofChange fnFaultHealedWrong)

/-- 'laws.FnExactFaultMessage': WHATEVER THE INPUT: true; the input reads as it did. -/
def fnExactFaultMessageSpec : ChangeSpec := { name := "fnExactFaultMessage", fn := fun _ => fun
  | [d] => { results := [.lit (.bool true)], args := [d] }
  | _ => none }
def fnExactFaultMessageRow : OpenClaim := { program := "yteahiiflgiimnaa", sum := "460379c677e6ed6f5bc67d3cfcaab3aabda88d54f7eadf7722a7b15f55a82165", func := "loop.example/capkernel/laws.FnExactFaultMessage", spec := "fnExactFaultMessage", apart := false }
def FnExactFaultMessageSaid : Prop := fnExactFaultMessageRow.holds Try.pinned (OpenSpec.ofChange fnExactFaultMessageSpec)

/-- ITS FALSE NEIGHBOUR: 'it returns false'. Refute it at one input. -/
def fnExactFaultMessageWrong : ChangeSpec := { name := "fnExactFaultMessage", fn := fun _ => fun
  | [d] => { results := [.lit (.bool false)], args := [d] }
  | _ => none }
def FnExactFaultMessageWrongFalsely : Prop := fnExactFaultMessageRow.holds Try.pinned (OpenSpec.ofChange fnExactFaultMessageWrong)

/-- 'laws.FnExactReadFault': WHATEVER THE INPUT: true; the input reads as it did. -/
def fnExactReadFaultSpec : ChangeSpec := { name := "fnExactReadFault", fn := fun _ => fun
  | [d] => { results := [.lit (.bool true)], args := [d] }
  | _ => none }
def fnExactReadFaultRow : OpenClaim := { program := "yteahiiflgiimnaa", sum := "460379c677e6ed6f5bc67d3cfcaab3aabda88d54f7eadf7722a7b15f55a82165", func := "loop.example/capkernel/laws.FnExactReadFault", spec := "fnExactReadFault", apart := false }
def FnExactReadFaultSaid : Prop := fnExactReadFaultRow.holds Try.pinned (OpenSpec.ofChange fnExactReadFaultSpec)

/-- ITS FALSE NEIGHBOUR: 'it returns false'. Refute it at one input. -/
def fnExactReadFaultWrong : ChangeSpec := { name := "fnExactReadFault", fn := fun _ => fun
  | [d] => { results := [.lit (.bool false)], args := [d] }
  | _ => none }
def FnExactReadFaultWrongFalsely : Prop := fnExactReadFaultRow.holds Try.pinned (OpenSpec.ofChange fnExactReadFaultWrong)

/-- 'laws.FnRepairFault': WHATEVER THE INPUT: true; the input reads as it did. -/
def fnRepairFaultSpec : ChangeSpec := { name := "fnRepairFault", fn := fun _ => fun
  | [d] => { results := [.lit (.bool true)], args := [d] }
  | _ => none }
def fnRepairFaultRow : OpenClaim := { program := "yteahiiflgiimnaa", sum := "460379c677e6ed6f5bc67d3cfcaab3aabda88d54f7eadf7722a7b15f55a82165", func := "loop.example/capkernel/laws.FnRepairFault", spec := "fnRepairFault", inPlace := ["slices.overlaps[loop.example/capkernel/impl.Mapping]", "internal/abi.NoEscape"], apart := false }
def FnRepairFaultSaid : Prop := fnRepairFaultRow.holds Try.pinned (OpenSpec.ofChange fnRepairFaultSpec)

/-- ITS FALSE NEIGHBOUR: 'it returns false'. Refute it at one input. -/
def fnRepairFaultWrong : ChangeSpec := { name := "fnRepairFault", fn := fun _ => fun
  | [d] => { results := [.lit (.bool false)], args := [d] }
  | _ => none }
def FnRepairFaultWrongFalsely : Prop := fnRepairFaultRow.holds Try.pinned (OpenSpec.ofChange fnRepairFaultWrong)

/-- 'laws.FnFaultMessage': WHATEVER THE INPUT: true; the input reads as it did. -/
def fnFaultMessageSpec : ChangeSpec := { name := "fnFaultMessage", fn := fun _ => fun
  | [d] => { results := [.lit (.bool true)], args := [d] }
  | _ => none }
def fnFaultMessageRow : OpenClaim := { program := "yteahiiflgiimnaa", sum := "460379c677e6ed6f5bc67d3cfcaab3aabda88d54f7eadf7722a7b15f55a82165", func := "loop.example/capkernel/laws.FnFaultMessage", spec := "fnFaultMessage", inPlace := ["internal/abi.NoEscape"], unfollowed := true, recurses := true, apart := false }
def FnFaultMessageSaid : Prop := fnFaultMessageRow.holds Try.pinned (OpenSpec.ofChange fnFaultMessageSpec)

/-- ITS FALSE NEIGHBOUR: 'it returns false'. Refute it at one input. -/
def fnFaultMessageWrong : ChangeSpec := { name := "fnFaultMessage", fn := fun _ => fun
  | [d] => { results := [.lit (.bool false)], args := [d] }
  | _ => none }
def FnFaultMessageWrongFalsely : Prop := fnFaultMessageRow.holds Try.pinned (OpenSpec.ofChange fnFaultMessageWrong)

/-- 'laws.FnReadFault': WHATEVER THE INPUT: true; the input reads as it did. -/
def fnReadFaultSpec : ChangeSpec := { name := "fnReadFault", fn := fun _ => fun
  | [d] => { results := [.lit (.bool true)], args := [d] }
  | _ => none }
def fnReadFaultRow : OpenClaim := { program := "yteahiiflgiimnaa", sum := "460379c677e6ed6f5bc67d3cfcaab3aabda88d54f7eadf7722a7b15f55a82165", func := "loop.example/capkernel/laws.FnReadFault", spec := "fnReadFault", inPlace := ["internal/abi.NoEscape"], apart := false }
def FnReadFaultSaid : Prop := fnReadFaultRow.holds Try.pinned (OpenSpec.ofChange fnReadFaultSpec)

/-- ITS FALSE NEIGHBOUR: 'it returns false'. Refute it at one input. -/
def fnReadFaultWrong : ChangeSpec := { name := "fnReadFault", fn := fun _ => fun
  | [d] => { results := [.lit (.bool false)], args := [d] }
  | _ => none }
def FnReadFaultWrongFalsely : Prop := fnReadFaultRow.holds Try.pinned (OpenSpec.ofChange fnReadFaultWrong)

/-- 'laws.FnFaultOf': WHATEVER THE INPUT: true; the input reads as it did. -/
def fnFaultOfSpec : ChangeSpec := { name := "fnFaultOf", fn := fun _ => fun
  | [d] => { results := [.lit (.bool true)], args := [d] }
  | _ => none }
def fnFaultOfRow : OpenClaim := { program := "yteahiiflgiimnaa", sum := "460379c677e6ed6f5bc67d3cfcaab3aabda88d54f7eadf7722a7b15f55a82165", func := "loop.example/capkernel/laws.FnFaultOf", spec := "fnFaultOf", inPlace := ["internal/abi.NoEscape"], apart := false }
def FnFaultOfSaid : Prop := fnFaultOfRow.holds Try.pinned (OpenSpec.ofChange fnFaultOfSpec)

/-- ITS FALSE NEIGHBOUR: 'it returns false'. Refute it at one input. -/
def fnFaultOfWrong : ChangeSpec := { name := "fnFaultOf", fn := fun _ => fun
  | [d] => { results := [.lit (.bool false)], args := [d] }
  | _ => none }
def FnFaultOfWrongFalsely : Prop := fnFaultOfRow.holds Try.pinned (OpenSpec.ofChange fnFaultOfWrong)

/- THE SECOND FORM. 'bulk': how many values and letters a reading holds, each counted each time it is reached (what is shared counts as often as it is met; a slice's spare places count too). A statement '..UptoSaid' is the law's where the arguments, and the package variables that the reading takes, are together of bulk at most 1048576: NARROWER than '..Said'. Prove '..Said' where nothing that the law and all that it calls make is longer than what came in: it says more and counts as full. Else prove '..UptoSaid'. A law counts once. -/
mutual
def uptoBulk {H : Type} : DataW H → Nat
  | .lit (.string bytes) => bytes.length + 1
  | .lit _ => 1
  | .nil => 1
  | .ptr d => uptoBulk d + 1
  | .slice elems spare => uptoBulkAll elems + uptoBulkAll spare + 1
  | .agg parts => uptoBulkAll parts + 1
  | .iface _ d => uptoBulk d + 1
  | .map entries => uptoBulkEntries entries + 1
  | .held _ => 1
def uptoBulkAll {H : Type} : List (DataW H) → Nat
  | [] => 0
  | d :: r => uptoBulk d + uptoBulkAll r
def uptoBulkEntries {H : Type} : List (Lit × DataW H) → Nat
  | [] => 0
  | x :: r => uptoBulkEntry x + uptoBulkEntries r
def uptoBulkEntry {H : Type} : Lit × DataW H → Nat
  | (.string bytes, d) => bytes.length + uptoBulk d + 1
  | (_, d) => uptoBulk d + 1
 end
def uptoSmall : (H : Type) → List (DataW H) → Bool := fun _ ds => decide (uptoBulkAll ds ≤ 1048576)
def OpenSpec.upto (s : _root_.Go.ChangeSpec) : _root_.Go.OpenSpec := { _root_.Go.OpenSpec.ofChange s with cond := some uptoSmall }

/-- 'laws.FnExactRepairFault', WHERE WHAT IT READS IS OF BULK AT MOST 1048576: true; the input reads as it did. -/
def fnExactRepairFaultUptoRow : OpenClaim := { program := "yteahiiflgiimnaa", sum := "460379c677e6ed6f5bc67d3cfcaab3aabda88d54f7eadf7722a7b15f55a82165", func := "loop.example/capkernel/laws.FnExactRepairFault", spec := "fnExactRepairFault", inPlace := ["slices.overlaps[loop.example/capkernel/impl.Mapping]"], apart := false, narrowed := true }
def FnExactRepairFaultUptoSaid : Prop := fnExactRepairFaultUptoRow.holds Try.pinned (OpenSpec.upto fnExactRepairFaultSpec)

/-- 'laws.FnExactFaultOf', WHERE WHAT IT READS IS OF BULK AT MOST 1048576: true; the input reads as it did. -/
def fnExactFaultOfUptoRow : OpenClaim := { program := "yteahiiflgiimnaa", sum := "460379c677e6ed6f5bc67d3cfcaab3aabda88d54f7eadf7722a7b15f55a82165", func := "loop.example/capkernel/laws.FnExactFaultOf", spec := "fnExactFaultOf", apart := false, narrowed := true }
def FnExactFaultOfUptoSaid : Prop := fnExactFaultOfUptoRow.holds Try.pinned (OpenSpec.upto fnExactFaultOfSpec)

/-- 'laws.FnFaultHealed', WHERE WHAT IT READS IS OF BULK AT MOST 1048576: true; the input reads as it did. -/
def fnFaultHealedUptoRow : OpenClaim := { program := "yteahiiflgiimnaa", sum := "460379c677e6ed6f5bc67d3cfcaab3aabda88d54f7eadf7722a7b15f55a82165", func := "loop.example/capkernel/laws.FnFaultHealed", spec := "fnFaultHealed", inPlace := ["internal/abi.NoEscape", "slices.overlaps[loop.example/capkernel/impl.Mapping]"], apart := false, narrowed := true }
def FnFaultHealedUptoSaid : Prop := fnFaultHealedUptoRow.holds Try.pinned (OpenSpec.upto fnFaultHealedSpec)

/-- 'laws.FnExactFaultMessage', WHERE WHAT IT READS IS OF BULK AT MOST 1048576: true; the input reads as it did. -/
def fnExactFaultMessageUptoRow : OpenClaim := { program := "yteahiiflgiimnaa", sum := "460379c677e6ed6f5bc67d3cfcaab3aabda88d54f7eadf7722a7b15f55a82165", func := "loop.example/capkernel/laws.FnExactFaultMessage", spec := "fnExactFaultMessage", apart := false, narrowed := true }
def FnExactFaultMessageUptoSaid : Prop := fnExactFaultMessageUptoRow.holds Try.pinned (OpenSpec.upto fnExactFaultMessageSpec)

/-- 'laws.FnExactReadFault', WHERE WHAT IT READS IS OF BULK AT MOST 1048576: true; the input reads as it did. -/
def fnExactReadFaultUptoRow : OpenClaim := { program := "yteahiiflgiimnaa", sum := "460379c677e6ed6f5bc67d3cfcaab3aabda88d54f7eadf7722a7b15f55a82165", func := "loop.example/capkernel/laws.FnExactReadFault", spec := "fnExactReadFault", apart := false, narrowed := true }
def FnExactReadFaultUptoSaid : Prop := fnExactReadFaultUptoRow.holds Try.pinned (OpenSpec.upto fnExactReadFaultSpec)

/-- 'laws.FnRepairFault', WHERE WHAT IT READS IS OF BULK AT MOST 1048576: true; the input reads as it did. -/
def fnRepairFaultUptoRow : OpenClaim := { program := "yteahiiflgiimnaa", sum := "460379c677e6ed6f5bc67d3cfcaab3aabda88d54f7eadf7722a7b15f55a82165", func := "loop.example/capkernel/laws.FnRepairFault", spec := "fnRepairFault", inPlace := ["slices.overlaps[loop.example/capkernel/impl.Mapping]", "internal/abi.NoEscape"], apart := false, narrowed := true }
def FnRepairFaultUptoSaid : Prop := fnRepairFaultUptoRow.holds Try.pinned (OpenSpec.upto fnRepairFaultSpec)

/-- 'laws.FnFaultMessage', WHERE WHAT IT READS IS OF BULK AT MOST 1048576: true; the input reads as it did. -/
def fnFaultMessageUptoRow : OpenClaim := { program := "yteahiiflgiimnaa", sum := "460379c677e6ed6f5bc67d3cfcaab3aabda88d54f7eadf7722a7b15f55a82165", func := "loop.example/capkernel/laws.FnFaultMessage", spec := "fnFaultMessage", inPlace := ["internal/abi.NoEscape"], unfollowed := true, recurses := true, apart := false, narrowed := true }
def FnFaultMessageUptoSaid : Prop := fnFaultMessageUptoRow.holds Try.pinned (OpenSpec.upto fnFaultMessageSpec)

/-- 'laws.FnReadFault', WHERE WHAT IT READS IS OF BULK AT MOST 1048576: true; the input reads as it did. -/
def fnReadFaultUptoRow : OpenClaim := { program := "yteahiiflgiimnaa", sum := "460379c677e6ed6f5bc67d3cfcaab3aabda88d54f7eadf7722a7b15f55a82165", func := "loop.example/capkernel/laws.FnReadFault", spec := "fnReadFault", inPlace := ["internal/abi.NoEscape"], apart := false, narrowed := true }
def FnReadFaultUptoSaid : Prop := fnReadFaultUptoRow.holds Try.pinned (OpenSpec.upto fnReadFaultSpec)

/-- 'laws.FnFaultOf', WHERE WHAT IT READS IS OF BULK AT MOST 1048576: true; the input reads as it did. -/
def fnFaultOfUptoRow : OpenClaim := { program := "yteahiiflgiimnaa", sum := "460379c677e6ed6f5bc67d3cfcaab3aabda88d54f7eadf7722a7b15f55a82165", func := "loop.example/capkernel/laws.FnFaultOf", spec := "fnFaultOf", inPlace := ["internal/abi.NoEscape"], apart := false, narrowed := true }
def FnFaultOfUptoSaid : Prop := fnFaultOfUptoRow.holds Try.pinned (OpenSpec.upto fnFaultOfSpec)

end Rows
end Go.Proofs.Yteahiiflgiimnaa
