/-
  DERIVED. GIVEN WITH THE SEED: THE CARDS: each row of YtamcbchinhdniaaGreatDoorRows.lean that lists a variable, with what it lists TIED to the program's text (the seventh form; the later family's looks); each row that meets fmt, with fmt's text TOLD by the authors' own Lean function (tested against real Go, not proved from fmt's source: count such statements apart). THE CARD IS WHAT COUNTS. Prove the row's statement (the work); the ties are given (YtamcbchinhdniaaGreatDoorTie.lean); close each card by the builder's one call (the guide's Derived/Test/ToyasCard.lean, 'card_holds'). Laid BY PROGRAM, IN A SANDBOX (cutbox-door.mjs). By AI agents, Wed Nov 11 2026. No macro, syntax, notation, axiom, sorry.
-/
import Derived.Test.YtamcbchinhdniaaGreatDoorRows
import GoSem.ClaimSeven
namespace Go.Proofs.YtamcbchinhdniaaGreatDoor
namespace Rows

/-- THE TIED CARD OF 'reparteelaw17.ParseTypes'. -/
def parseTypesCard : Claim7 := { stood := { row := parseTypesRow, standIns := [], harness := (true, "a049e1f5198e8cf7fd765e885411b291a63c3a8f4606a3bfea0dbec9f553815b"), looks := true }, kinds := [], alts := [], laidByText := true, laidKinds := [.data, .data, .data, .sentinel, .sentinel], laidTests := true, laidLooks := .later }
def ParseTypesCardSaid : Prop := Claim7.holds Tryz.pinned (.plain (OpenSpec.ofChange parseTypesSpec)) parseTypesCard

/-- THE SECOND FORM's CARD OF 'reparteelaw17.ParseTypes'. -/
def parseTypesUptoCard : Claim7 := { stood := { row := parseTypesUptoRow, standIns := [], harness := (true, "a049e1f5198e8cf7fd765e885411b291a63c3a8f4606a3bfea0dbec9f553815b"), looks := true }, kinds := [], alts := [], laidByText := true, laidKinds := [.data, .data, .data, .sentinel, .sentinel], laidTests := true, laidLooks := .later }
def ParseTypesUptoCardSaid : Prop := Claim7.holds Tryz.pinned (.plain (OpenSpec.upto parseTypesSpec)) parseTypesUptoCard
end Rows
end Go.Proofs.YtamcbchinhdniaaGreatDoor
