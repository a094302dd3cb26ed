/-
  No cell of these rows narrows 'for every input' (looked for: loops, veiled, ifaces, maps, wideKeys, modest, calm, conditions, laid).
  DERIVED. THE GIVEN ROWS OF THIS SEAT. 11 by the template 'for every input the law returns true; each argument reads behind the call as it read before'; 0 by the template 'total and deterministic' (their statements: YthjbafafkaoomaaTotals.lean).
  GIVEN WITH THE SEED: the statements are not yours to turn. If you find one false, say at which input.
  Laid BY PROGRAM, IN A SANDBOX (cutbox-rows.mjs): the forced cells as the released guide's own fill.sh prints them over the translation a5cc89805ee213e0… (all of the seat's roots in one cut). By AI agents, Wed Nov 11 2026. No macro, syntax, notation, axiom, sorry.
-/
import Derived.Test.YthjbafafkaoomaaChecked
import GoSem.Claim
import GoSem.ClaimJoined
import GoSem.ClaimMapViews
import Derived.JoinedTies
import Derived.KernelRfl
namespace Go.Proofs.Ythjbafafkaoomaa
/- THE CELL 'sum', in the pinned program and in every row, IS THE sha256 OF THE DUMP (.gsa) THAT YthjbafafkaoomaaProg.lean LOADS. Nothing in Lean hashes anything: it is a label: what it is worth is what the hold of that sum in a sandbox is worth. -/
noncomputable def Try.pinned : Pinned := { name := "ythjbafafkaoomaa", sum := "a5cc89805ee213e09a7317a1e88eaf1126e5e31f86d4510b3394bd759abedbd8", checked := Try.checked }
namespace Rows
def none {H : Type} : Left H := { results := [], args := [] }

/-- 'laws.FnExactTimersValid': WHATEVER THE INPUT: true; the input reads as it did. -/
def fnExactTimersValidSpec : ChangeSpec := { name := "fnExactTimersValid", fn := fun _ => fun
  | [d] => { results := [.lit (.bool true)], args := [d] }
  | _ => none }
def fnExactTimersValidRow : OpenClaim := { program := "ythjbafafkaoomaa", sum := "a5cc89805ee213e09a7317a1e88eaf1126e5e31f86d4510b3394bd759abedbd8", func := "loop.example/capkernel/laws.FnExactTimersValid", spec := "fnExactTimersValid", unfollowed := true, recurses := true, apart := false }
def FnExactTimersValidSaid : Prop := fnExactTimersValidRow.holds Try.pinned (OpenSpec.ofChange fnExactTimersValidSpec)

/-- ITS FALSE NEIGHBOUR: 'it returns false'. Refute it at one input. -/
def fnExactTimersValidWrong : ChangeSpec := { name := "fnExactTimersValid", fn := fun _ => fun
  | [d] => { results := [.lit (.bool false)], args := [d] }
  | _ => none }
def FnExactTimersValidWrongFalsely : Prop := fnExactTimersValidRow.holds Try.pinned (OpenSpec.ofChange fnExactTimersValidWrong)

/-- 'laws.FnExactNamesValid': WHATEVER THE INPUT: true; the input reads as it did. -/
def fnExactNamesValidSpec : ChangeSpec := { name := "fnExactNamesValid", fn := fun _ => fun
  | [d] => { results := [.lit (.bool true)], args := [d] }
  | _ => none }
def fnExactNamesValidRow : OpenClaim := { program := "ythjbafafkaoomaa", sum := "a5cc89805ee213e09a7317a1e88eaf1126e5e31f86d4510b3394bd759abedbd8", func := "loop.example/capkernel/laws.FnExactNamesValid", spec := "fnExactNamesValid", apart := false }
def FnExactNamesValidSaid : Prop := fnExactNamesValidRow.holds Try.pinned (OpenSpec.ofChange fnExactNamesValidSpec)

/-- ITS FALSE NEIGHBOUR: 'it returns false'. Refute it at one input. -/
def fnExactNamesValidWrong : ChangeSpec := { name := "fnExactNamesValid", fn := fun _ => fun
  | [d] => { results := [.lit (.bool false)], args := [d] }
  | _ => none }
def FnExactNamesValidWrongFalsely : Prop := fnExactNamesValidRow.holds Try.pinned (OpenSpec.ofChange fnExactNamesValidWrong)

/-- 'laws.FnTimersValid': WHATEVER THE INPUT: true; the input reads as it did. -/
def fnTimersValidSpec : ChangeSpec := { name := "fnTimersValid", fn := fun _ => fun
  | [d] => { results := [.lit (.bool true)], args := [d] }
  | _ => none }
def fnTimersValidRow : OpenClaim := { program := "ythjbafafkaoomaa", sum := "a5cc89805ee213e09a7317a1e88eaf1126e5e31f86d4510b3394bd759abedbd8", func := "loop.example/capkernel/laws.FnTimersValid", spec := "fnTimersValid", inPlace := ["internal/abi.NoEscape"], unfollowed := true, recurses := true, apart := false }
def FnTimersValidSaid : Prop := fnTimersValidRow.holds Try.pinned (OpenSpec.ofChange fnTimersValidSpec)

/-- ITS FALSE NEIGHBOUR: 'it returns false'. Refute it at one input. -/
def fnTimersValidWrong : ChangeSpec := { name := "fnTimersValid", fn := fun _ => fun
  | [d] => { results := [.lit (.bool false)], args := [d] }
  | _ => none }
def FnTimersValidWrongFalsely : Prop := fnTimersValidRow.holds Try.pinned (OpenSpec.ofChange fnTimersValidWrong)

/-- 'laws.FnExactDropTimer': WHATEVER THE INPUT: true; the input reads as it did. -/
def fnExactDropTimerSpec : ChangeSpec := { name := "fnExactDropTimer", fn := fun _ => fun
  | [d1, d2] => { results := [.lit (.bool true)], args := [d1, d2] }
  | _ => none }
def fnExactDropTimerRow : OpenClaim := { program := "ythjbafafkaoomaa", sum := "a5cc89805ee213e09a7317a1e88eaf1126e5e31f86d4510b3394bd759abedbd8", func := "loop.example/capkernel/laws.FnExactDropTimer", spec := "fnExactDropTimer", unfollowed := true, recurses := true, apart := false }
def FnExactDropTimerSaid : Prop := fnExactDropTimerRow.holds Try.pinned (OpenSpec.ofChange fnExactDropTimerSpec)

/-- ITS FALSE NEIGHBOUR: 'it returns false'. Refute it at one input. -/
def fnExactDropTimerWrong : ChangeSpec := { name := "fnExactDropTimer", fn := fun _ => fun
  | [d1, d2] => { results := [.lit (.bool false)], args := [d1, d2] }
  | _ => none }
def FnExactDropTimerWrongFalsely : Prop := fnExactDropTimerRow.holds Try.pinned (OpenSpec.ofChange fnExactDropTimerWrong)

/-- 'laws.FnExactExpireTimers': WHATEVER THE INPUT: true; the input reads as it did. -/
def fnExactExpireTimersSpec : ChangeSpec := { name := "fnExactExpireTimers", fn := fun _ => fun
  | [d1, d2] => { results := [.lit (.bool true)], args := [d1, d2] }
  | _ => none }
def fnExactExpireTimersRow : OpenClaim := { program := "ythjbafafkaoomaa", sum := "a5cc89805ee213e09a7317a1e88eaf1126e5e31f86d4510b3394bd759abedbd8", func := "loop.example/capkernel/laws.FnExactExpireTimers", spec := "fnExactExpireTimers", unfollowed := true, recurses := true, apart := false }
def FnExactExpireTimersSaid : Prop := fnExactExpireTimersRow.holds Try.pinned (OpenSpec.ofChange fnExactExpireTimersSpec)

/-- ITS FALSE NEIGHBOUR: 'it returns false'. Refute it at one input. -/
def fnExactExpireTimersWrong : ChangeSpec := { name := "fnExactExpireTimers", fn := fun _ => fun
  | [d1, d2] => { results := [.lit (.bool false)], args := [d1, d2] }
  | _ => none }
def FnExactExpireTimersWrongFalsely : Prop := fnExactExpireTimersRow.holds Try.pinned (OpenSpec.ofChange fnExactExpireTimersWrong)

/-- 'laws.FnDropTimer': WHATEVER THE INPUT: true; the input reads as it did. -/
def fnDropTimerSpec : ChangeSpec := { name := "fnDropTimer", fn := fun _ => fun
  | [d] => { results := [.lit (.bool true)], args := [d] }
  | _ => none }
def fnDropTimerRow : OpenClaim := { program := "ythjbafafkaoomaa", sum := "a5cc89805ee213e09a7317a1e88eaf1126e5e31f86d4510b3394bd759abedbd8", func := "loop.example/capkernel/laws.FnDropTimer", spec := "fnDropTimer", inPlace := ["internal/abi.NoEscape"], unfollowed := true, recurses := true, apart := false }
def FnDropTimerSaid : Prop := fnDropTimerRow.holds Try.pinned (OpenSpec.ofChange fnDropTimerSpec)

/-- ITS FALSE NEIGHBOUR: 'it returns false'. Refute it at one input. -/
def fnDropTimerWrong : ChangeSpec := { name := "fnDropTimer", fn := fun _ => fun
  | [d] => { results := [.lit (.bool false)], args := [d] }
  | _ => none }
def FnDropTimerWrongFalsely : Prop := fnDropTimerRow.holds Try.pinned (OpenSpec.ofChange fnDropTimerWrong)

/-- 'laws.FnExpireTimers': WHATEVER THE INPUT: true; the input reads as it did. -/
def fnExpireTimersSpec : ChangeSpec := { name := "fnExpireTimers", fn := fun _ => fun
  | [d] => { results := [.lit (.bool true)], args := [d] }
  | _ => none }
def fnExpireTimersRow : OpenClaim := { program := "ythjbafafkaoomaa", sum := "a5cc89805ee213e09a7317a1e88eaf1126e5e31f86d4510b3394bd759abedbd8", func := "loop.example/capkernel/laws.FnExpireTimers", spec := "fnExpireTimers", inPlace := ["internal/abi.NoEscape"], unfollowed := true, recurses := true, apart := false }
def FnExpireTimersSaid : Prop := fnExpireTimersRow.holds Try.pinned (OpenSpec.ofChange fnExpireTimersSpec)

/-- ITS FALSE NEIGHBOUR: 'it returns false'. Refute it at one input. -/
def fnExpireTimersWrong : ChangeSpec := { name := "fnExpireTimers", fn := fun _ => fun
  | [d] => { results := [.lit (.bool false)], args := [d] }
  | _ => none }
def FnExpireTimersWrongFalsely : Prop := fnExpireTimersRow.holds Try.pinned (OpenSpec.ofChange fnExpireTimersWrong)

/-- 'laws.FnTimersAll': WHATEVER THE INPUT: true; the input reads as it did. -/
def fnTimersAllSpec : ChangeSpec := { name := "fnTimersAll", fn := fun _ => fun
  | [d] => { results := [.lit (.bool true)], args := [d] }
  | _ => none }
def fnTimersAllRow : OpenClaim := { program := "ythjbafafkaoomaa", sum := "a5cc89805ee213e09a7317a1e88eaf1126e5e31f86d4510b3394bd759abedbd8", func := "loop.example/capkernel/laws.FnTimersAll", spec := "fnTimersAll", inPlace := ["internal/abi.NoEscape"], unfollowed := true, recurses := true, apart := false }
def FnTimersAllSaid : Prop := fnTimersAllRow.holds Try.pinned (OpenSpec.ofChange fnTimersAllSpec)

/-- ITS FALSE NEIGHBOUR: 'it returns false'. Refute it at one input. -/
def fnTimersAllWrong : ChangeSpec := { name := "fnTimersAll", fn := fun _ => fun
  | [d] => { results := [.lit (.bool false)], args := [d] }
  | _ => none }
def FnTimersAllWrongFalsely : Prop := fnTimersAllRow.holds Try.pinned (OpenSpec.ofChange fnTimersAllWrong)

/-- 'laws.FnExactSetTimer': WHATEVER THE INPUT: true; the input reads as it did. -/
def fnExactSetTimerSpec : ChangeSpec := { name := "fnExactSetTimer", fn := fun _ => fun
  | [d1, d2, d3] => { results := [.lit (.bool true)], args := [d1, d2, d3] }
  | _ => none }
def fnExactSetTimerRow : OpenClaim := { program := "ythjbafafkaoomaa", sum := "a5cc89805ee213e09a7317a1e88eaf1126e5e31f86d4510b3394bd759abedbd8", func := "loop.example/capkernel/laws.FnExactSetTimer", spec := "fnExactSetTimer", inPlace := ["slices.overlaps[loop.example/capkernel/impl.Timer]"], unfollowed := true, recurses := true, apart := false }
def FnExactSetTimerSaid : Prop := fnExactSetTimerRow.holds Try.pinned (OpenSpec.ofChange fnExactSetTimerSpec)

/-- ITS FALSE NEIGHBOUR: 'it returns false'. Refute it at one input. -/
def fnExactSetTimerWrong : ChangeSpec := { name := "fnExactSetTimer", fn := fun _ => fun
  | [d1, d2, d3] => { results := [.lit (.bool false)], args := [d1, d2, d3] }
  | _ => none }
def FnExactSetTimerWrongFalsely : Prop := fnExactSetTimerRow.holds Try.pinned (OpenSpec.ofChange fnExactSetTimerWrong)

/-- 'laws.FnTimersAgain': WHATEVER THE INPUT: true; the input reads as it did. -/
def fnTimersAgainSpec : ChangeSpec := { name := "fnTimersAgain", fn := fun _ => fun
  | [d1, d2] => { results := [.lit (.bool true)], args := [d1, d2] }
  | _ => none }
def fnTimersAgainRow : OpenClaim := { program := "ythjbafafkaoomaa", sum := "a5cc89805ee213e09a7317a1e88eaf1126e5e31f86d4510b3394bd759abedbd8", func := "loop.example/capkernel/laws.FnTimersAgain", spec := "fnTimersAgain", inPlace := ["slices.overlaps[loop.example/capkernel/impl.Timer]", "internal/abi.NoEscape"], unfollowed := true, recurses := true, apart := false }
def FnTimersAgainSaid : Prop := fnTimersAgainRow.holds Try.pinned (OpenSpec.ofChange fnTimersAgainSpec)

/-- ITS FALSE NEIGHBOUR: 'it returns false'. Refute it at one input. -/
def fnTimersAgainWrong : ChangeSpec := { name := "fnTimersAgain", fn := fun _ => fun
  | [d1, d2] => { results := [.lit (.bool false)], args := [d1, d2] }
  | _ => none }
def FnTimersAgainWrongFalsely : Prop := fnTimersAgainRow.holds Try.pinned (OpenSpec.ofChange fnTimersAgainWrong)

/-- 'laws.FnSetTimer': WHATEVER THE INPUT: true; the input reads as it did. -/
def fnSetTimerSpec : ChangeSpec := { name := "fnSetTimer", fn := fun _ => fun
  | [d] => { results := [.lit (.bool true)], args := [d] }
  | _ => none }
def fnSetTimerRow : OpenClaim := { program := "ythjbafafkaoomaa", sum := "a5cc89805ee213e09a7317a1e88eaf1126e5e31f86d4510b3394bd759abedbd8", func := "loop.example/capkernel/laws.FnSetTimer", spec := "fnSetTimer", inPlace := ["slices.overlaps[loop.example/capkernel/impl.Timer]", "internal/abi.NoEscape"], unfollowed := true, recurses := true, apart := false }
def FnSetTimerSaid : Prop := fnSetTimerRow.holds Try.pinned (OpenSpec.ofChange fnSetTimerSpec)

/-- ITS FALSE NEIGHBOUR: 'it returns false'. Refute it at one input. -/
def fnSetTimerWrong : ChangeSpec := { name := "fnSetTimer", fn := fun _ => fun
  | [d] => { results := [.lit (.bool false)], args := [d] }
  | _ => none }
def FnSetTimerWrongFalsely : Prop := fnSetTimerRow.holds Try.pinned (OpenSpec.ofChange fnSetTimerWrong)

/- THE SECOND FORM. 'bulk': how many values and letters a reading holds, each counted each time it is reached (what is shared counts as often as it is met; a slice's spare places count too). A statement '..UptoSaid' is the law's where the arguments, and the package variables that the reading takes, are together of bulk at most 1048576: NARROWER than '..Said'. Prove '..Said' where nothing that the law and all that it calls make is longer than what came in: it says more and counts as full. Else prove '..UptoSaid'. A law counts once. -/
mutual
def uptoBulk {H : Type} : DataW H → Nat
  | .lit (.string bytes) => bytes.length + 1
  | .lit _ => 1
  | .nil => 1
  | .ptr d => uptoBulk d + 1
  | .slice elems spare => uptoBulkAll elems + uptoBulkAll spare + 1
  | .agg parts => uptoBulkAll parts + 1
  | .iface _ d => uptoBulk d + 1
  | .map entries => uptoBulkEntries entries + 1
  | .held _ => 1
def uptoBulkAll {H : Type} : List (DataW H) → Nat
  | [] => 0
  | d :: r => uptoBulk d + uptoBulkAll r
def uptoBulkEntries {H : Type} : List (Lit × DataW H) → Nat
  | [] => 0
  | x :: r => uptoBulkEntry x + uptoBulkEntries r
def uptoBulkEntry {H : Type} : Lit × DataW H → Nat
  | (.string bytes, d) => bytes.length + uptoBulk d + 1
  | (_, d) => uptoBulk d + 1
 end
def uptoSmall : (H : Type) → List (DataW H) → Bool := fun _ ds => decide (uptoBulkAll ds ≤ 1048576)
def OpenSpec.upto (s : _root_.Go.ChangeSpec) : _root_.Go.OpenSpec := { _root_.Go.OpenSpec.ofChange s with cond := some uptoSmall }

/-- 'laws.FnExactTimersValid', WHERE WHAT IT READS IS OF BULK AT MOST 1048576: true; the input reads as it did. -/
def fnExactTimersValidUptoRow : OpenClaim := { program := "ythjbafafkaoomaa", sum := "a5cc89805ee213e09a7317a1e88eaf1126e5e31f86d4510b3394bd759abedbd8", func := "loop.example/capkernel/laws.FnExactTimersValid", spec := "fnExactTimersValid", unfollowed := true, recurses := true, apart := false, narrowed := true }
def FnExactTimersValidUptoSaid : Prop := fnExactTimersValidUptoRow.holds Try.pinned (OpenSpec.upto fnExactTimersValidSpec)

/-- 'laws.FnExactNamesValid', WHERE WHAT IT READS IS OF BULK AT MOST 1048576: true; the input reads as it did. -/
def fnExactNamesValidUptoRow : OpenClaim := { program := "ythjbafafkaoomaa", sum := "a5cc89805ee213e09a7317a1e88eaf1126e5e31f86d4510b3394bd759abedbd8", func := "loop.example/capkernel/laws.FnExactNamesValid", spec := "fnExactNamesValid", apart := false, narrowed := true }
def FnExactNamesValidUptoSaid : Prop := fnExactNamesValidUptoRow.holds Try.pinned (OpenSpec.upto fnExactNamesValidSpec)

/-- 'laws.FnTimersValid', WHERE WHAT IT READS IS OF BULK AT MOST 1048576: true; the input reads as it did. -/
def fnTimersValidUptoRow : OpenClaim := { program := "ythjbafafkaoomaa", sum := "a5cc89805ee213e09a7317a1e88eaf1126e5e31f86d4510b3394bd759abedbd8", func := "loop.example/capkernel/laws.FnTimersValid", spec := "fnTimersValid", inPlace := ["internal/abi.NoEscape"], unfollowed := true, recurses := true, apart := false, narrowed := true }
def FnTimersValidUptoSaid : Prop := fnTimersValidUptoRow.holds Try.pinned (OpenSpec.upto fnTimersValidSpec)

/-- 'laws.FnExactDropTimer', WHERE WHAT IT READS IS OF BULK AT MOST 1048576: true; the input reads as it did. -/
def fnExactDropTimerUptoRow : OpenClaim := { program := "ythjbafafkaoomaa", sum := "a5cc89805ee213e09a7317a1e88eaf1126e5e31f86d4510b3394bd759abedbd8", func := "loop.example/capkernel/laws.FnExactDropTimer", spec := "fnExactDropTimer", unfollowed := true, recurses := true, apart := false, narrowed := true }
def FnExactDropTimerUptoSaid : Prop := fnExactDropTimerUptoRow.holds Try.pinned (OpenSpec.upto fnExactDropTimerSpec)

/-- 'laws.FnExactExpireTimers', WHERE WHAT IT READS IS OF BULK AT MOST 1048576: true; the input reads as it did. -/
def fnExactExpireTimersUptoRow : OpenClaim := { program := "ythjbafafkaoomaa", sum := "a5cc89805ee213e09a7317a1e88eaf1126e5e31f86d4510b3394bd759abedbd8", func := "loop.example/capkernel/laws.FnExactExpireTimers", spec := "fnExactExpireTimers", unfollowed := true, recurses := true, apart := false, narrowed := true }
def FnExactExpireTimersUptoSaid : Prop := fnExactExpireTimersUptoRow.holds Try.pinned (OpenSpec.upto fnExactExpireTimersSpec)

/-- 'laws.FnDropTimer', WHERE WHAT IT READS IS OF BULK AT MOST 1048576: true; the input reads as it did. -/
def fnDropTimerUptoRow : OpenClaim := { program := "ythjbafafkaoomaa", sum := "a5cc89805ee213e09a7317a1e88eaf1126e5e31f86d4510b3394bd759abedbd8", func := "loop.example/capkernel/laws.FnDropTimer", spec := "fnDropTimer", inPlace := ["internal/abi.NoEscape"], unfollowed := true, recurses := true, apart := false, narrowed := true }
def FnDropTimerUptoSaid : Prop := fnDropTimerUptoRow.holds Try.pinned (OpenSpec.upto fnDropTimerSpec)

/-- 'laws.FnExpireTimers', WHERE WHAT IT READS IS OF BULK AT MOST 1048576: true; the input reads as it did. -/
def fnExpireTimersUptoRow : OpenClaim := { program := "ythjbafafkaoomaa", sum := "a5cc89805ee213e09a7317a1e88eaf1126e5e31f86d4510b3394bd759abedbd8", func := "loop.example/capkernel/laws.FnExpireTimers", spec := "fnExpireTimers", inPlace := ["internal/abi.NoEscape"], unfollowed := true, recurses := true, apart := false, narrowed := true }
def FnExpireTimersUptoSaid : Prop := fnExpireTimersUptoRow.holds Try.pinned (OpenSpec.upto fnExpireTimersSpec)

/-- 'laws.FnTimersAll', WHERE WHAT IT READS IS OF BULK AT MOST 1048576: true; the input reads as it did. -/
def fnTimersAllUptoRow : OpenClaim := { program := "ythjbafafkaoomaa", sum := "a5cc89805ee213e09a7317a1e88eaf1126e5e31f86d4510b3394bd759abedbd8", func := "loop.example/capkernel/laws.FnTimersAll", spec := "fnTimersAll", inPlace := ["internal/abi.NoEscape"], unfollowed := true, recurses := true, apart := false, narrowed := true }
def FnTimersAllUptoSaid : Prop := fnTimersAllUptoRow.holds Try.pinned (OpenSpec.upto fnTimersAllSpec)

/-- 'laws.FnExactSetTimer', WHERE WHAT IT READS IS OF BULK AT MOST 1048576: true; the input reads as it did. -/
def fnExactSetTimerUptoRow : OpenClaim := { program := "ythjbafafkaoomaa", sum := "a5cc89805ee213e09a7317a1e88eaf1126e5e31f86d4510b3394bd759abedbd8", func := "loop.example/capkernel/laws.FnExactSetTimer", spec := "fnExactSetTimer", inPlace := ["slices.overlaps[loop.example/capkernel/impl.Timer]"], unfollowed := true, recurses := true, apart := false, narrowed := true }
def FnExactSetTimerUptoSaid : Prop := fnExactSetTimerUptoRow.holds Try.pinned (OpenSpec.upto fnExactSetTimerSpec)

/-- 'laws.FnTimersAgain', WHERE WHAT IT READS IS OF BULK AT MOST 1048576: true; the input reads as it did. -/
def fnTimersAgainUptoRow : OpenClaim := { program := "ythjbafafkaoomaa", sum := "a5cc89805ee213e09a7317a1e88eaf1126e5e31f86d4510b3394bd759abedbd8", func := "loop.example/capkernel/laws.FnTimersAgain", spec := "fnTimersAgain", inPlace := ["slices.overlaps[loop.example/capkernel/impl.Timer]", "internal/abi.NoEscape"], unfollowed := true, recurses := true, apart := false, narrowed := true }
def FnTimersAgainUptoSaid : Prop := fnTimersAgainUptoRow.holds Try.pinned (OpenSpec.upto fnTimersAgainSpec)

/-- 'laws.FnSetTimer', WHERE WHAT IT READS IS OF BULK AT MOST 1048576: true; the input reads as it did. -/
def fnSetTimerUptoRow : OpenClaim := { program := "ythjbafafkaoomaa", sum := "a5cc89805ee213e09a7317a1e88eaf1126e5e31f86d4510b3394bd759abedbd8", func := "loop.example/capkernel/laws.FnSetTimer", spec := "fnSetTimer", inPlace := ["slices.overlaps[loop.example/capkernel/impl.Timer]", "internal/abi.NoEscape"], unfollowed := true, recurses := true, apart := false, narrowed := true }
def FnSetTimerUptoSaid : Prop := fnSetTimerUptoRow.holds Try.pinned (OpenSpec.upto fnSetTimerSpec)

end Rows
end Go.Proofs.Ythjbafafkaoomaa
