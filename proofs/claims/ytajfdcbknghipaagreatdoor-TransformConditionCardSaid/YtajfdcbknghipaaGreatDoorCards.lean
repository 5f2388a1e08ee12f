/-
  DERIVED. GIVEN WITH THE SEED: THE CARDS: each row of YtajfdcbknghipaaGreatDoorRows.lean that lists a variable, with what it lists TIED to the program's text (the seventh form; the later family's looks); each row that meets fmt, with fmt's text TOLD by the authors' own Lean function (tested against real Go, not proved from fmt's source: count such statements apart). THE CARD IS WHAT COUNTS. Prove the row's statement (the work); the ties are given (YtajfdcbknghipaaGreatDoorTie.lean); close each card by the builder's one call (the guide's Derived/Test/ToyasCard.lean, 'card_holds'). Laid BY PROGRAM, IN A SANDBOX (cutbox-door.mjs). By AI agents, Wed Nov 11 2026. No macro, syntax, notation, axiom, sorry.
-/
import Derived.Test.YtajfdcbknghipaaGreatDoorRows
import GoSem.ClaimSeven
namespace Go.Proofs.YtajfdcbknghipaaGreatDoor
namespace Rows

/-- THE TIED CARD OF 'credencelaw23.TransformCondition'. -/
def transformConditionCard : Claim7 := { stood := { row := transformConditionRow, standIns := [], harness := (true, "b7d9ff1155d9e39dacd465fd5ca042902434dfc6987dd92f6d332b07dae8899f"), looks := false }, kinds := [], alts := [], laidByText := true, laidKinds := [.data, .data, .data], laidTests := true, laidLooks := .later }
def TransformConditionCardSaid : Prop := Claim7.holds Tryz.pinned (.plain (OpenSpec.ofChange transformConditionSpec)) transformConditionCard

/-- THE SECOND FORM's CARD OF 'credencelaw23.TransformCondition'. -/
def transformConditionUptoCard : Claim7 := { stood := { row := transformConditionUptoRow, standIns := [], harness := (true, "b7d9ff1155d9e39dacd465fd5ca042902434dfc6987dd92f6d332b07dae8899f"), looks := false }, kinds := [], alts := [], laidByText := true, laidKinds := [.data, .data, .data], laidTests := true, laidLooks := .later }
def TransformConditionUptoCardSaid : Prop := Claim7.holds Tryz.pinned (.plain (OpenSpec.upto transformConditionSpec)) transformConditionUptoCard
end Rows
end Go.Proofs.YtajfdcbknghipaaGreatDoor
