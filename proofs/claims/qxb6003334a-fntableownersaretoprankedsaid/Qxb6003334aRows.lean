/-
  No cell of these rows narrows 'for every input' (looked for: loops, veiled, ifaces, maps, wideKeys, modest, calm, conditions, laid).
  DERIVED. THE GIVEN ROWS OF THIS SEAT. 5 by the template 'for every input the law returns true; each argument reads behind the call as it read before'; 0 by the template 'total and deterministic' (their statements: Qxb6003334aTotals.lean).
  GIVEN WITH THE SEED: the statements are not yours to turn. If you find one false, say at which input.
  Laid BY PROGRAM, IN A SANDBOX (cutbox-rows.mjs): the forced cells as the released guide's own fill.sh prints them over the translation acd15071cc9690cd… (all of the seat's roots in one cut). By AI agents, Wed Nov 11 2026. No macro, syntax, notation, axiom, sorry.
-/
import Derived.Test.Qxb6003334aChecked
import GoSem.Claim
import GoSem.ClaimJoined
import GoSem.ClaimMapViews
import Derived.JoinedTies
import Derived.KernelRfl
namespace Go.Proofs.Qxb6003334a
/- THE CELL 'sum', in the pinned program and in every row, IS THE sha256 OF THE DUMP (.gsa) THAT Qxb6003334aProg.lean LOADS. Nothing in Lean hashes anything: it is a label: what it is worth is what the hold of that sum in a sandbox is worth. -/
noncomputable def Try.pinned : Pinned := { name := "qxb6003334a", sum := "acd15071cc9690cd319f4175599f0d27fdf9d647d5c651b4f72893169736422b", checked := Try.checked }
namespace Rows
def none {H : Type} : Left H := { results := [], args := [] }

/-- 'zzlaws_pkg_grid_g2.FnMixInverse': WHATEVER THE INPUT: true; the input reads as it did. -/
def fnMixInverseSpec : ChangeSpec := { name := "fnMixInverse", fn := fun _ => fun
  | [d] => { results := [.lit (.bool true)], args := [d] }
  | _ => none }
def fnMixInverseRow : OpenClaim := { program := "qxb6003334a", sum := "acd15071cc9690cd319f4175599f0d27fdf9d647d5c651b4f72893169736422b", func := "example.com/gridloom/gridloom/zzlaws_pkg_grid_g2.FnMixInverse", spec := "fnMixInverse", apart := false }
def FnMixInverseSaid : Prop := fnMixInverseRow.holds Try.pinned (OpenSpec.ofChange fnMixInverseSpec)

/-- ITS FALSE NEIGHBOUR: 'it returns false'. Refute it at one input. -/
def fnMixInverseWrong : ChangeSpec := { name := "fnMixInverse", fn := fun _ => fun
  | [d] => { results := [.lit (.bool false)], args := [d] }
  | _ => none }
def FnMixInverseWrongFalsely : Prop := fnMixInverseRow.holds Try.pinned (OpenSpec.ofChange fnMixInverseWrong)

/-- 'zzlaws_pkg_grid_g2.FnHashKeyOneByteApart': WHATEVER THE INPUT: true; the input reads as it did. -/
def fnHashKeyOneByteApartSpec : ChangeSpec := { name := "fnHashKeyOneByteApart", fn := fun _ => fun
  | [d1, d2, d3] => { results := [.lit (.bool true)], args := [d1, d2, d3] }
  | _ => none }
def fnHashKeyOneByteApartRow : OpenClaim := { program := "qxb6003334a", sum := "acd15071cc9690cd319f4175599f0d27fdf9d647d5c651b4f72893169736422b", func := "example.com/gridloom/gridloom/zzlaws_pkg_grid_g2.FnHashKeyOneByteApart", spec := "fnHashKeyOneByteApart", apart := false }
def FnHashKeyOneByteApartSaid : Prop := fnHashKeyOneByteApartRow.holds Try.pinned (OpenSpec.ofChange fnHashKeyOneByteApartSpec)

/-- ITS FALSE NEIGHBOUR: 'it returns false'. Refute it at one input. -/
def fnHashKeyOneByteApartWrong : ChangeSpec := { name := "fnHashKeyOneByteApart", fn := fun _ => fun
  | [d1, d2, d3] => { results := [.lit (.bool false)], args := [d1, d2, d3] }
  | _ => none }
def FnHashKeyOneByteApartWrongFalsely : Prop := fnHashKeyOneByteApartRow.holds Try.pinned (OpenSpec.ofChange fnHashKeyOneByteApartWrong)

/-- 'zzlaws_pkg_grid_g2.FnTableOwnersAreTopRanked': WHATEVER THE INPUT: true; the input reads as it did. -/
def fnTableOwnersAreTopRankedSpec : ChangeSpec := { name := "fnTableOwnersAreTopRanked", fn := fun _ => fun
  | [d1, d2, d3, d4, d5] => { results := [.lit (.bool true)], args := [d1, d2, d3, d4, d5] }
  | _ => none }
def fnTableOwnersAreTopRankedRow : OpenClaim := { program := "qxb6003334a", sum := "acd15071cc9690cd319f4175599f0d27fdf9d647d5c651b4f72893169736422b", func := "example.com/gridloom/gridloom/zzlaws_pkg_grid_g2.FnTableOwnersAreTopRanked", spec := "fnTableOwnersAreTopRanked", apart := false }
def FnTableOwnersAreTopRankedSaid : Prop := fnTableOwnersAreTopRankedRow.holds Try.pinned (OpenSpec.ofChange fnTableOwnersAreTopRankedSpec)

/-- ITS FALSE NEIGHBOUR: 'it returns false'. Refute it at one input. -/
def fnTableOwnersAreTopRankedWrong : ChangeSpec := { name := "fnTableOwnersAreTopRanked", fn := fun _ => fun
  | [d1, d2, d3, d4, d5] => { results := [.lit (.bool false)], args := [d1, d2, d3, d4, d5] }
  | _ => none }
def FnTableOwnersAreTopRankedWrongFalsely : Prop := fnTableOwnersAreTopRankedRow.holds Try.pinned (OpenSpec.ofChange fnTableOwnersAreTopRankedWrong)

/-- 'zzlaws_pkg_grid_g2.FnTableGainMovesOnlyForNewcomer': WHATEVER THE INPUT: true; the input reads as it did. -/
def fnTableGainMovesOnlyForNewcomerSpec : ChangeSpec := { name := "fnTableGainMovesOnlyForNewcomer", fn := fun _ => fun
  | [d1, d2, d3, d4] => { results := [.lit (.bool true)], args := [d1, d2, d3, d4] }
  | _ => none }
def fnTableGainMovesOnlyForNewcomerRow : OpenClaim := { program := "qxb6003334a", sum := "acd15071cc9690cd319f4175599f0d27fdf9d647d5c651b4f72893169736422b", func := "example.com/gridloom/gridloom/zzlaws_pkg_grid_g2.FnTableGainMovesOnlyForNewcomer", spec := "fnTableGainMovesOnlyForNewcomer", apart := false }
def FnTableGainMovesOnlyForNewcomerSaid : Prop := fnTableGainMovesOnlyForNewcomerRow.holds Try.pinned (OpenSpec.ofChange fnTableGainMovesOnlyForNewcomerSpec)

/-- ITS FALSE NEIGHBOUR: 'it returns false'. Refute it at one input. -/
def fnTableGainMovesOnlyForNewcomerWrong : ChangeSpec := { name := "fnTableGainMovesOnlyForNewcomer", fn := fun _ => fun
  | [d1, d2, d3, d4] => { results := [.lit (.bool false)], args := [d1, d2, d3, d4] }
  | _ => none }
def FnTableGainMovesOnlyForNewcomerWrongFalsely : Prop := fnTableGainMovesOnlyForNewcomerRow.holds Try.pinned (OpenSpec.ofChange fnTableGainMovesOnlyForNewcomerWrong)

/-- 'zzlaws_pkg_grid_g2.FnPartScriptAgreesWithModel': WHATEVER THE INPUT: true; the input reads as it did. -/
def fnPartScriptAgreesWithModelSpec : ChangeSpec := { name := "fnPartScriptAgreesWithModel", fn := fun _ => fun
  | [d1, d2, d3, d4, d5, d6, d7, d8, d9, d10] => { results := [.lit (.bool true)], args := [d1, d2, d3, d4, d5, d6, d7, d8, d9, d10] }
  | _ => none }
def fnPartScriptAgreesWithModelRow : OpenClaim := { program := "qxb6003334a", sum := "acd15071cc9690cd319f4175599f0d27fdf9d647d5c651b4f72893169736422b", func := "example.com/gridloom/gridloom/zzlaws_pkg_grid_g2.FnPartScriptAgreesWithModel", spec := "fnPartScriptAgreesWithModel", apart := false }
def FnPartScriptAgreesWithModelSaid : Prop := fnPartScriptAgreesWithModelRow.holds Try.pinned (OpenSpec.ofChange fnPartScriptAgreesWithModelSpec)

/-- ITS FALSE NEIGHBOUR: 'it returns false'. Refute it at one input. -/
def fnPartScriptAgreesWithModelWrong : ChangeSpec := { name := "fnPartScriptAgreesWithModel", fn := fun _ => fun
  | [d1, d2, d3, d4, d5, d6, d7, d8, d9, d10] => { results := [.lit (.bool false)], args := [d1, d2, d3, d4, d5, d6, d7, d8, d9, d10] }
  | _ => none }
def FnPartScriptAgreesWithModelWrongFalsely : Prop := fnPartScriptAgreesWithModelRow.holds Try.pinned (OpenSpec.ofChange fnPartScriptAgreesWithModelWrong)

end Rows
end Go.Proofs.Qxb6003334a
