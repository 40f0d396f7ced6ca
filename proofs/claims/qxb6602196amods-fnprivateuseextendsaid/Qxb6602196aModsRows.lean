/-
  No cell of these rows narrows 'for every input' (looked for: loops, veiled, ifaces, maps, wideKeys, modest, calm, conditions, laid).
  DERIVED. THE GIVEN ROWS OF THIS SEAT. 4 by the template 'for every input the law returns true; each argument reads behind the call as it read before'; 0 by the template 'total and deterministic' (their statements: Qxb6602196aModsTotals.lean).
  GIVEN WITH THE SEED: the statements are not yours to turn. If you find one false, say at which input.
  Laid BY PROGRAM, IN A SANDBOX (cutbox-rows.mjs): the forced cells as the released guide's own fill.sh prints them over the translation bd248a89cb2f2559… (all of the seat's roots in one cut). By AI agents, Wed Nov 11 2026. No macro, syntax, notation, axiom, sorry.
-/
import Derived.Test.Qxb6602196aModsChecked
import GoSem.Claim
import GoSem.ClaimJoined
import GoSem.ClaimMapViews
import Derived.JoinedTies
import Derived.KernelRfl
namespace Go.Proofs.Qxb6602196aMods
/- THE CELL 'sum', in the pinned program and in every row, IS THE sha256 OF THE DUMP (.gsa) THAT Qxb6602196aModsProg.lean LOADS. Nothing in Lean hashes anything: it is a label: what it is worth is what the hold of that sum in a sandbox is worth. -/
noncomputable def Trym.pinned : Pinned := { name := "qxb6602196amods", sum := "bd248a89cb2f25596d1fa5a0c496c73ab19b1cf7c376d9295ca721600c2c9732", checked := Trym.checked }
namespace Rows
def none {H : Type} : Left H := { results := [], args := [] }

/-- 'zzlaws_root_b1.FnPrivateUseExtend': WHATEVER THE INPUT: true; the input reads as it did. -/
def fnPrivateUseExtendSpec : ChangeSpec := { name := "fnPrivateUseExtend", fn := fun _ => fun
  | [d1, d2] => { results := [.lit (.bool true)], args := [d1, d2] }
  | _ => none }
def fnPrivateUseExtendRow : OpenClaim := { program := "qxb6602196amods", sum := "bd248a89cb2f25596d1fa5a0c496c73ab19b1cf7c376d9295ca721600c2c9732", func := "example.com/faultline/faultline/zzlaws_root_b1.FnPrivateUseExtend", spec := "fnPrivateUseExtend", make := .lifted ["publicsums"], apart := false }
def FnPrivateUseExtendSaid : Prop := fnPrivateUseExtendRow.holds Trym.pinned (OpenSpec.ofChange fnPrivateUseExtendSpec)

/-- ITS FALSE NEIGHBOUR: 'it returns false'. Refute it at one input. -/
def fnPrivateUseExtendWrong : ChangeSpec := { name := "fnPrivateUseExtend", fn := fun _ => fun
  | [d1, d2] => { results := [.lit (.bool false)], args := [d1, d2] }
  | _ => none }
def FnPrivateUseExtendWrongFalsely : Prop := fnPrivateUseExtendRow.holds Trym.pinned (OpenSpec.ofChange fnPrivateUseExtendWrong)

/-- 'zzlaws_root_b1.FnLowerASCIISpec': WHATEVER THE INPUT: true; the input reads as it did. -/
def fnLowerASCIISpecSpec : ChangeSpec := { name := "fnLowerASCIISpec", fn := fun _ => fun
  | [d] => { results := [.lit (.bool true)], args := [d] }
  | _ => none }
def fnLowerASCIISpecRow : OpenClaim := { program := "qxb6602196amods", sum := "bd248a89cb2f25596d1fa5a0c496c73ab19b1cf7c376d9295ca721600c2c9732", func := "example.com/faultline/faultline/zzlaws_root_b1.FnLowerASCIISpec", spec := "fnLowerASCIISpec", make := .lifted ["publicsums"], apart := false }
def FnLowerASCIISpecSaid : Prop := fnLowerASCIISpecRow.holds Trym.pinned (OpenSpec.ofChange fnLowerASCIISpecSpec)

/-- ITS FALSE NEIGHBOUR: 'it returns false'. Refute it at one input. -/
def fnLowerASCIISpecWrong : ChangeSpec := { name := "fnLowerASCIISpec", fn := fun _ => fun
  | [d] => { results := [.lit (.bool false)], args := [d] }
  | _ => none }
def FnLowerASCIISpecWrongFalsely : Prop := fnLowerASCIISpecRow.holds Trym.pinned (OpenSpec.ofChange fnLowerASCIISpecWrong)

/-- 'zzlaws_root_b1.FnLowerASCIIFoldEqual': WHATEVER THE INPUT: true; the input reads as it did. -/
def fnLowerASCIIFoldEqualSpec : ChangeSpec := { name := "fnLowerASCIIFoldEqual", fn := fun _ => fun
  | [d1, d2] => { results := [.lit (.bool true)], args := [d1, d2] }
  | _ => none }
def fnLowerASCIIFoldEqualRow : OpenClaim := { program := "qxb6602196amods", sum := "bd248a89cb2f25596d1fa5a0c496c73ab19b1cf7c376d9295ca721600c2c9732", func := "example.com/faultline/faultline/zzlaws_root_b1.FnLowerASCIIFoldEqual", spec := "fnLowerASCIIFoldEqual", make := .lifted ["publicsums"], apart := false }
def FnLowerASCIIFoldEqualSaid : Prop := fnLowerASCIIFoldEqualRow.holds Trym.pinned (OpenSpec.ofChange fnLowerASCIIFoldEqualSpec)

/-- ITS FALSE NEIGHBOUR: 'it returns false'. Refute it at one input. -/
def fnLowerASCIIFoldEqualWrong : ChangeSpec := { name := "fnLowerASCIIFoldEqual", fn := fun _ => fun
  | [d1, d2] => { results := [.lit (.bool false)], args := [d1, d2] }
  | _ => none }
def FnLowerASCIIFoldEqualWrongFalsely : Prop := fnLowerASCIIFoldEqualRow.holds Trym.pinned (OpenSpec.ofChange fnLowerASCIIFoldEqualWrong)

/-- 'zzlaws_root_b1.FnLowerASCIIIdempotent': WHATEVER THE INPUT: true; the input reads as it did. -/
def fnLowerASCIIIdempotentSpec : ChangeSpec := { name := "fnLowerASCIIIdempotent", fn := fun _ => fun
  | [d] => { results := [.lit (.bool true)], args := [d] }
  | _ => none }
def fnLowerASCIIIdempotentRow : OpenClaim := { program := "qxb6602196amods", sum := "bd248a89cb2f25596d1fa5a0c496c73ab19b1cf7c376d9295ca721600c2c9732", func := "example.com/faultline/faultline/zzlaws_root_b1.FnLowerASCIIIdempotent", spec := "fnLowerASCIIIdempotent", make := .lifted ["publicsums"], apart := false }
def FnLowerASCIIIdempotentSaid : Prop := fnLowerASCIIIdempotentRow.holds Trym.pinned (OpenSpec.ofChange fnLowerASCIIIdempotentSpec)

/-- ITS FALSE NEIGHBOUR: 'it returns false'. Refute it at one input. -/
def fnLowerASCIIIdempotentWrong : ChangeSpec := { name := "fnLowerASCIIIdempotent", fn := fun _ => fun
  | [d] => { results := [.lit (.bool false)], args := [d] }
  | _ => none }
def FnLowerASCIIIdempotentWrongFalsely : Prop := fnLowerASCIIIdempotentRow.holds Trym.pinned (OpenSpec.ofChange fnLowerASCIIIdempotentWrong)

end Rows
end Go.Proofs.Qxb6602196aMods
