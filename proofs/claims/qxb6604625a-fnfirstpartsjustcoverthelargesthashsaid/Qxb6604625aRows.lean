/-
  No cell of these rows narrows 'for every input' (looked for: loops, veiled, ifaces, maps, wideKeys, modest, calm, conditions, laid).
  DERIVED. THE GIVEN ROWS OF THIS SEAT. 5 by the template 'for every input the law returns true; each argument reads behind the call as it read before'; 0 by the template 'total and deterministic' (their statements: Qxb6604625aTotals.lean).
  GIVEN WITH THE SEED: the statements are not yours to turn. If you find one false, say at which input.
  Laid BY PROGRAM, IN A SANDBOX (cutbox-rows.mjs): the forced cells as the released guide's own fill.sh prints them over the translation 86c3f3c8ebdf9f7a… (all of the seat's roots in one cut). By AI agents, Wed Nov 11 2026. No macro, syntax, notation, axiom, sorry.
-/
import Derived.Test.Qxb6604625aChecked
import GoSem.Claim
import GoSem.ClaimJoined
import GoSem.ClaimMapViews
import Derived.JoinedTies
import Derived.KernelRfl
namespace Go.Proofs.Qxb6604625a
/- THE CELL 'sum', in the pinned program and in every row, IS THE sha256 OF THE DUMP (.gsa) THAT Qxb6604625aProg.lean LOADS. Nothing in Lean hashes anything: it is a label: what it is worth is what the hold of that sum in a sandbox is worth. -/
noncomputable def Try.pinned : Pinned := { name := "qxb6604625a", sum := "86c3f3c8ebdf9f7a267189daa17b400032df2cdb530869a0aebc5f90de92f4fa", checked := Try.checked }
namespace Rows
def none {H : Type} : Left H := { results := [], args := [] }

/-- 'zzlaws_root_b1.FnCorruptListErrorTextParsesBack': WHATEVER THE INPUT: true; the input reads as it did. -/
def fnCorruptListErrorTextParsesBackSpec : ChangeSpec := { name := "fnCorruptListErrorTextParsesBack", fn := fun _ => fun
  | [d1, d2] => { results := [.lit (.bool true)], args := [d1, d2] }
  | _ => none }
def fnCorruptListErrorTextParsesBackRow : OpenClaim := { program := "qxb6604625a", sum := "86c3f3c8ebdf9f7a267189daa17b400032df2cdb530869a0aebc5f90de92f4fa", func := "example.com/hashwarden/hashwarden/zzlaws_root_b1.FnCorruptListErrorTextParsesBack", spec := "fnCorruptListErrorTextParsesBack", unfollowed := true, recurses := true, apart := false }
def FnCorruptListErrorTextParsesBackSaid : Prop := fnCorruptListErrorTextParsesBackRow.holds Try.pinned (OpenSpec.ofChange fnCorruptListErrorTextParsesBackSpec)

/-- ITS FALSE NEIGHBOUR: 'it returns false'. Refute it at one input. -/
def fnCorruptListErrorTextParsesBackWrong : ChangeSpec := { name := "fnCorruptListErrorTextParsesBack", fn := fun _ => fun
  | [d1, d2] => { results := [.lit (.bool false)], args := [d1, d2] }
  | _ => none }
def FnCorruptListErrorTextParsesBackWrongFalsely : Prop := fnCorruptListErrorTextParsesBackRow.holds Try.pinned (OpenSpec.ofChange fnCorruptListErrorTextParsesBackWrong)

/-- 'zzlaws_root_b1.FnBitLenMatchesHighestSetBitScan': WHATEVER THE INPUT: true; the input reads as it did. -/
def fnBitLenMatchesHighestSetBitScanSpec : ChangeSpec := { name := "fnBitLenMatchesHighestSetBitScan", fn := fun _ => fun
  | [d] => { results := [.lit (.bool true)], args := [d] }
  | _ => none }
def fnBitLenMatchesHighestSetBitScanRow : OpenClaim := { program := "qxb6604625a", sum := "86c3f3c8ebdf9f7a267189daa17b400032df2cdb530869a0aebc5f90de92f4fa", func := "example.com/hashwarden/hashwarden/zzlaws_root_b1.FnBitLenMatchesHighestSetBitScan", spec := "fnBitLenMatchesHighestSetBitScan", apart := false }
def FnBitLenMatchesHighestSetBitScanSaid : Prop := fnBitLenMatchesHighestSetBitScanRow.holds Try.pinned (OpenSpec.ofChange fnBitLenMatchesHighestSetBitScanSpec)

/-- ITS FALSE NEIGHBOUR: 'it returns false'. Refute it at one input. -/
def fnBitLenMatchesHighestSetBitScanWrong : ChangeSpec := { name := "fnBitLenMatchesHighestSetBitScan", fn := fun _ => fun
  | [d] => { results := [.lit (.bool false)], args := [d] }
  | _ => none }
def FnBitLenMatchesHighestSetBitScanWrongFalsely : Prop := fnBitLenMatchesHighestSetBitScanRow.holds Try.pinned (OpenSpec.ofChange fnBitLenMatchesHighestSetBitScanWrong)

/-- 'zzlaws_root_b1.FnBitLenHalvingDropsOneBit': WHATEVER THE INPUT: true; the input reads as it did. -/
def fnBitLenHalvingDropsOneBitSpec : ChangeSpec := { name := "fnBitLenHalvingDropsOneBit", fn := fun _ => fun
  | [d] => { results := [.lit (.bool true)], args := [d] }
  | _ => none }
def fnBitLenHalvingDropsOneBitRow : OpenClaim := { program := "qxb6604625a", sum := "86c3f3c8ebdf9f7a267189daa17b400032df2cdb530869a0aebc5f90de92f4fa", func := "example.com/hashwarden/hashwarden/zzlaws_root_b1.FnBitLenHalvingDropsOneBit", spec := "fnBitLenHalvingDropsOneBit", apart := false }
def FnBitLenHalvingDropsOneBitSaid : Prop := fnBitLenHalvingDropsOneBitRow.holds Try.pinned (OpenSpec.ofChange fnBitLenHalvingDropsOneBitSpec)

/-- ITS FALSE NEIGHBOUR: 'it returns false'. Refute it at one input. -/
def fnBitLenHalvingDropsOneBitWrong : ChangeSpec := { name := "fnBitLenHalvingDropsOneBit", fn := fun _ => fun
  | [d] => { results := [.lit (.bool false)], args := [d] }
  | _ => none }
def FnBitLenHalvingDropsOneBitWrongFalsely : Prop := fnBitLenHalvingDropsOneBitRow.holds Try.pinned (OpenSpec.ofChange fnBitLenHalvingDropsOneBitWrong)

/-- 'zzlaws_root_b1.FnFirstPartsCaseTable': WHATEVER THE INPUT: true; the input reads as it did. -/
def fnFirstPartsCaseTableSpec : ChangeSpec := { name := "fnFirstPartsCaseTable", fn := fun _ => fun
  | [d] => { results := [.lit (.bool true)], args := [d] }
  | _ => none }
def fnFirstPartsCaseTableRow : OpenClaim := { program := "qxb6604625a", sum := "86c3f3c8ebdf9f7a267189daa17b400032df2cdb530869a0aebc5f90de92f4fa", func := "example.com/hashwarden/hashwarden/zzlaws_root_b1.FnFirstPartsCaseTable", spec := "fnFirstPartsCaseTable", apart := false }
def FnFirstPartsCaseTableSaid : Prop := fnFirstPartsCaseTableRow.holds Try.pinned (OpenSpec.ofChange fnFirstPartsCaseTableSpec)

/-- ITS FALSE NEIGHBOUR: 'it returns false'. Refute it at one input. -/
def fnFirstPartsCaseTableWrong : ChangeSpec := { name := "fnFirstPartsCaseTable", fn := fun _ => fun
  | [d] => { results := [.lit (.bool false)], args := [d] }
  | _ => none }
def FnFirstPartsCaseTableWrongFalsely : Prop := fnFirstPartsCaseTableRow.holds Try.pinned (OpenSpec.ofChange fnFirstPartsCaseTableWrong)

/-- 'zzlaws_root_b1.FnFirstPartsJustCoverTheLargestHash': WHATEVER THE INPUT: true; the input reads as it did. -/
def fnFirstPartsJustCoverTheLargestHashSpec : ChangeSpec := { name := "fnFirstPartsJustCoverTheLargestHash", fn := fun _ => fun
  | [d] => { results := [.lit (.bool true)], args := [d] }
  | _ => none }
def fnFirstPartsJustCoverTheLargestHashRow : OpenClaim := { program := "qxb6604625a", sum := "86c3f3c8ebdf9f7a267189daa17b400032df2cdb530869a0aebc5f90de92f4fa", func := "example.com/hashwarden/hashwarden/zzlaws_root_b1.FnFirstPartsJustCoverTheLargestHash", spec := "fnFirstPartsJustCoverTheLargestHash", apart := false }
def FnFirstPartsJustCoverTheLargestHashSaid : Prop := fnFirstPartsJustCoverTheLargestHashRow.holds Try.pinned (OpenSpec.ofChange fnFirstPartsJustCoverTheLargestHashSpec)

/-- ITS FALSE NEIGHBOUR: 'it returns false'. Refute it at one input. -/
def fnFirstPartsJustCoverTheLargestHashWrong : ChangeSpec := { name := "fnFirstPartsJustCoverTheLargestHash", fn := fun _ => fun
  | [d] => { results := [.lit (.bool false)], args := [d] }
  | _ => none }
def FnFirstPartsJustCoverTheLargestHashWrongFalsely : Prop := fnFirstPartsJustCoverTheLargestHashRow.holds Try.pinned (OpenSpec.ofChange fnFirstPartsJustCoverTheLargestHashWrong)

end Rows
end Go.Proofs.Qxb6604625a
