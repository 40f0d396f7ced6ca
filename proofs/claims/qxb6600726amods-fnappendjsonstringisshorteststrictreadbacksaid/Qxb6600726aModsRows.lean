/-
  No cell of these rows narrows 'for every input' (looked for: loops, veiled, ifaces, maps, wideKeys, modest, calm, conditions, laid).
  DERIVED. THE GIVEN ROWS OF THIS SEAT. 6 by the template 'for every input the law returns true; each argument reads behind the call as it read before'; 0 by the template 'total and deterministic' (their statements: Qxb6600726aModsTotals.lean).
  GIVEN WITH THE SEED: the statements are not yours to turn. If you find one false, say at which input.
  Laid BY PROGRAM, IN A SANDBOX (cutbox-rows.mjs): the forced cells as the released guide's own fill.sh prints them over the translation 9ab6d2c0692f14b9… (all of the seat's roots in one cut). By AI agents, Wed Nov 11 2026. No macro, syntax, notation, axiom, sorry.
-/
import Derived.Test.Qxb6600726aModsChecked
import GoSem.Claim
import GoSem.ClaimJoined
import GoSem.ClaimMapViews
import Derived.JoinedTies
import Derived.KernelRfl
namespace Go.Proofs.Qxb6600726aMods
/- THE CELL 'sum', in the pinned program and in every row, IS THE sha256 OF THE DUMP (.gsa) THAT Qxb6600726aModsProg.lean LOADS. Nothing in Lean hashes anything: it is a label: what it is worth is what the hold of that sum in a sandbox is worth. -/
noncomputable def Trym.pinned : Pinned := { name := "qxb6600726amods", sum := "9ab6d2c0692f14b9be1391dc455879b78e4d6d4876eb2b9ccf92a74d8113b59d", checked := Trym.checked }
namespace Rows
def none {H : Type} : Left H := { results := [], args := [] }

/-- 'zzlaws_internal_selfservice_b1.FnAppendJSONStringIsShortestStrictReadBack': WHATEVER THE INPUT: true; the input reads as it did. -/
def fnAppendJSONStringIsShortestStrictReadBackSpec : ChangeSpec := { name := "fnAppendJSONStringIsShortestStrictReadBack", fn := fun _ => fun
  | [d1, d2] => { results := [.lit (.bool true)], args := [d1, d2] }
  | _ => none }
def fnAppendJSONStringIsShortestStrictReadBackRow : OpenClaim := { program := "qxb6600726amods", sum := "9ab6d2c0692f14b9be1391dc455879b78e4d6d4876eb2b9ccf92a74d8113b59d", func := "example.com/latchpoint/latchpoint/zzlaws_internal_selfservice_b1.FnAppendJSONStringIsShortestStrictReadBack", spec := "fnAppendJSONStringIsShortestStrictReadBack", make := .lifted ["publicsums"], apart := false }
def FnAppendJSONStringIsShortestStrictReadBackSaid : Prop := fnAppendJSONStringIsShortestStrictReadBackRow.holds Trym.pinned (OpenSpec.ofChange fnAppendJSONStringIsShortestStrictReadBackSpec)

/-- ITS FALSE NEIGHBOUR: 'it returns false'. Refute it at one input. -/
def fnAppendJSONStringIsShortestStrictReadBackWrong : ChangeSpec := { name := "fnAppendJSONStringIsShortestStrictReadBack", fn := fun _ => fun
  | [d1, d2] => { results := [.lit (.bool false)], args := [d1, d2] }
  | _ => none }
def FnAppendJSONStringIsShortestStrictReadBackWrongFalsely : Prop := fnAppendJSONStringIsShortestStrictReadBackRow.holds Trym.pinned (OpenSpec.ofChange fnAppendJSONStringIsShortestStrictReadBackWrong)

/-- 'zzlaws_internal_selfservice_b1.FnAppendJSONStringSplitsAtAnyJoin': WHATEVER THE INPUT: true; the input reads as it did. -/
def fnAppendJSONStringSplitsAtAnyJoinSpec : ChangeSpec := { name := "fnAppendJSONStringSplitsAtAnyJoin", fn := fun _ => fun
  | [d1, d2, d3] => { results := [.lit (.bool true)], args := [d1, d2, d3] }
  | _ => none }
def fnAppendJSONStringSplitsAtAnyJoinRow : OpenClaim := { program := "qxb6600726amods", sum := "9ab6d2c0692f14b9be1391dc455879b78e4d6d4876eb2b9ccf92a74d8113b59d", func := "example.com/latchpoint/latchpoint/zzlaws_internal_selfservice_b1.FnAppendJSONStringSplitsAtAnyJoin", spec := "fnAppendJSONStringSplitsAtAnyJoin", make := .lifted ["publicsums"], apart := false }
def FnAppendJSONStringSplitsAtAnyJoinSaid : Prop := fnAppendJSONStringSplitsAtAnyJoinRow.holds Trym.pinned (OpenSpec.ofChange fnAppendJSONStringSplitsAtAnyJoinSpec)

/-- ITS FALSE NEIGHBOUR: 'it returns false'. Refute it at one input. -/
def fnAppendJSONStringSplitsAtAnyJoinWrong : ChangeSpec := { name := "fnAppendJSONStringSplitsAtAnyJoin", fn := fun _ => fun
  | [d1, d2, d3] => { results := [.lit (.bool false)], args := [d1, d2, d3] }
  | _ => none }
def FnAppendJSONStringSplitsAtAnyJoinWrongFalsely : Prop := fnAppendJSONStringSplitsAtAnyJoinRow.holds Trym.pinned (OpenSpec.ofChange fnAppendJSONStringSplitsAtAnyJoinWrong)

/-- 'zzlaws_internal_selfservice_b1.FnQuotedStringHidesItsBytesFromNesting': WHATEVER THE INPUT: true; the input reads as it did. -/
def fnQuotedStringHidesItsBytesFromNestingSpec : ChangeSpec := { name := "fnQuotedStringHidesItsBytesFromNesting", fn := fun _ => fun
  | [d1, d2] => { results := [.lit (.bool true)], args := [d1, d2] }
  | _ => none }
def fnQuotedStringHidesItsBytesFromNestingRow : OpenClaim := { program := "qxb6600726amods", sum := "9ab6d2c0692f14b9be1391dc455879b78e4d6d4876eb2b9ccf92a74d8113b59d", func := "example.com/latchpoint/latchpoint/zzlaws_internal_selfservice_b1.FnQuotedStringHidesItsBytesFromNesting", spec := "fnQuotedStringHidesItsBytesFromNesting", make := .lifted ["publicsums"], apart := false }
def FnQuotedStringHidesItsBytesFromNestingSaid : Prop := fnQuotedStringHidesItsBytesFromNestingRow.holds Trym.pinned (OpenSpec.ofChange fnQuotedStringHidesItsBytesFromNestingSpec)

/-- ITS FALSE NEIGHBOUR: 'it returns false'. Refute it at one input. -/
def fnQuotedStringHidesItsBytesFromNestingWrong : ChangeSpec := { name := "fnQuotedStringHidesItsBytesFromNesting", fn := fun _ => fun
  | [d1, d2] => { results := [.lit (.bool false)], args := [d1, d2] }
  | _ => none }
def FnQuotedStringHidesItsBytesFromNestingWrongFalsely : Prop := fnQuotedStringHidesItsBytesFromNestingRow.holds Trym.pinned (OpenSpec.ofChange fnQuotedStringHidesItsBytesFromNestingWrong)

/-- 'zzlaws_internal_selfservice_b1.FnNestingIsGreatestOpenExcessOutsideStrings': WHATEVER THE INPUT: true; the input reads as it did. -/
def fnNestingIsGreatestOpenExcessOutsideStringsSpec : ChangeSpec := { name := "fnNestingIsGreatestOpenExcessOutsideStrings", fn := fun _ => fun
  | [d] => { results := [.lit (.bool true)], args := [d] }
  | _ => none }
def fnNestingIsGreatestOpenExcessOutsideStringsRow : OpenClaim := { program := "qxb6600726amods", sum := "9ab6d2c0692f14b9be1391dc455879b78e4d6d4876eb2b9ccf92a74d8113b59d", func := "example.com/latchpoint/latchpoint/zzlaws_internal_selfservice_b1.FnNestingIsGreatestOpenExcessOutsideStrings", spec := "fnNestingIsGreatestOpenExcessOutsideStrings", make := .lifted ["publicsums"], apart := false }
def FnNestingIsGreatestOpenExcessOutsideStringsSaid : Prop := fnNestingIsGreatestOpenExcessOutsideStringsRow.holds Trym.pinned (OpenSpec.ofChange fnNestingIsGreatestOpenExcessOutsideStringsSpec)

/-- ITS FALSE NEIGHBOUR: 'it returns false'. Refute it at one input. -/
def fnNestingIsGreatestOpenExcessOutsideStringsWrong : ChangeSpec := { name := "fnNestingIsGreatestOpenExcessOutsideStrings", fn := fun _ => fun
  | [d] => { results := [.lit (.bool false)], args := [d] }
  | _ => none }
def FnNestingIsGreatestOpenExcessOutsideStringsWrongFalsely : Prop := fnNestingIsGreatestOpenExcessOutsideStringsRow.holds Trym.pinned (OpenSpec.ofChange fnNestingIsGreatestOpenExcessOutsideStringsWrong)

/-- 'zzlaws_internal_selfservice_b1.FnNestingWrappedOnceNestsOneDeeper': WHATEVER THE INPUT: true; the input reads as it did. -/
def fnNestingWrappedOnceNestsOneDeeperSpec : ChangeSpec := { name := "fnNestingWrappedOnceNestsOneDeeper", fn := fun _ => fun
  | [d1, d2] => { results := [.lit (.bool true)], args := [d1, d2] }
  | _ => none }
def fnNestingWrappedOnceNestsOneDeeperRow : OpenClaim := { program := "qxb6600726amods", sum := "9ab6d2c0692f14b9be1391dc455879b78e4d6d4876eb2b9ccf92a74d8113b59d", func := "example.com/latchpoint/latchpoint/zzlaws_internal_selfservice_b1.FnNestingWrappedOnceNestsOneDeeper", spec := "fnNestingWrappedOnceNestsOneDeeper", make := .lifted ["publicsums"], apart := false }
def FnNestingWrappedOnceNestsOneDeeperSaid : Prop := fnNestingWrappedOnceNestsOneDeeperRow.holds Trym.pinned (OpenSpec.ofChange fnNestingWrappedOnceNestsOneDeeperSpec)

/-- ITS FALSE NEIGHBOUR: 'it returns false'. Refute it at one input. -/
def fnNestingWrappedOnceNestsOneDeeperWrong : ChangeSpec := { name := "fnNestingWrappedOnceNestsOneDeeper", fn := fun _ => fun
  | [d1, d2] => { results := [.lit (.bool false)], args := [d1, d2] }
  | _ => none }
def FnNestingWrappedOnceNestsOneDeeperWrongFalsely : Prop := fnNestingWrappedOnceNestsOneDeeperRow.holds Trym.pinned (OpenSpec.ofChange fnNestingWrappedOnceNestsOneDeeperWrong)

/-- 'zzlaws_internal_selfservice_b1.FnNestingOfAPrefixIsNoDeeperAndBoundedByOpens': WHATEVER THE INPUT: true; the input reads as it did. -/
def fnNestingOfAPrefixIsNoDeeperAndBoundedByOpensSpec : ChangeSpec := { name := "fnNestingOfAPrefixIsNoDeeperAndBoundedByOpens", fn := fun _ => fun
  | [d1, d2] => { results := [.lit (.bool true)], args := [d1, d2] }
  | _ => none }
def fnNestingOfAPrefixIsNoDeeperAndBoundedByOpensRow : OpenClaim := { program := "qxb6600726amods", sum := "9ab6d2c0692f14b9be1391dc455879b78e4d6d4876eb2b9ccf92a74d8113b59d", func := "example.com/latchpoint/latchpoint/zzlaws_internal_selfservice_b1.FnNestingOfAPrefixIsNoDeeperAndBoundedByOpens", spec := "fnNestingOfAPrefixIsNoDeeperAndBoundedByOpens", make := .lifted ["publicsums"], apart := false }
def FnNestingOfAPrefixIsNoDeeperAndBoundedByOpensSaid : Prop := fnNestingOfAPrefixIsNoDeeperAndBoundedByOpensRow.holds Trym.pinned (OpenSpec.ofChange fnNestingOfAPrefixIsNoDeeperAndBoundedByOpensSpec)

/-- ITS FALSE NEIGHBOUR: 'it returns false'. Refute it at one input. -/
def fnNestingOfAPrefixIsNoDeeperAndBoundedByOpensWrong : ChangeSpec := { name := "fnNestingOfAPrefixIsNoDeeperAndBoundedByOpens", fn := fun _ => fun
  | [d1, d2] => { results := [.lit (.bool false)], args := [d1, d2] }
  | _ => none }
def FnNestingOfAPrefixIsNoDeeperAndBoundedByOpensWrongFalsely : Prop := fnNestingOfAPrefixIsNoDeeperAndBoundedByOpensRow.holds Trym.pinned (OpenSpec.ofChange fnNestingOfAPrefixIsNoDeeperAndBoundedByOpensWrong)

end Rows
end Go.Proofs.Qxb6600726aMods
