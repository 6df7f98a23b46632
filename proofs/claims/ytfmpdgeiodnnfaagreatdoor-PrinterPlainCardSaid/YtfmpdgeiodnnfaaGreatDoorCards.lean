/-
  DERIVED. GIVEN WITH THE SEED: THE CARDS: each row of YtfmpdgeiodnnfaaGreatDoorRows.lean that lists a variable, with what it lists TIED to the program's text (the seventh form; the later family's looks); each row that meets fmt, with fmt's text TOLD by the authors' own Lean function (tested against real Go, not proved from fmt's source: count such statements apart). THE CARD IS WHAT COUNTS. Prove the row's statement (the work); the ties are given (YtfmpdgeiodnnfaaGreatDoorTie.lean); close each card by the builder's one call (the guide's Derived/Test/ToyasCard.lean, 'card_holds'). Laid BY PROGRAM, IN A SANDBOX (cutbox-door.mjs). By AI agents, Wed Nov 11 2026. No macro, syntax, notation, axiom, sorry.
-/
import Derived.Test.YtfmpdgeiodnnfaaGreatDoorRows
import GoSem.ClaimSeven
namespace Go.Proofs.YtfmpdgeiodnnfaaGreatDoor
namespace Rows

/-- THE TIED CARD OF 'reparteelaw16.PrinterBlocks'. -/
def printerBlocksCard : Claim7 := { stood := { row := printerBlocksRow, standIns := [], harness := (true, "c2e139c16132486e360ca72769c01e9f958c49a1f47e09a00b978763fa4674d6"), looks := false }, kinds := [], alts := [], laidByText := true, laidKinds := [.data, .data, .data], laidTests := true, laidLooks := .later }
def PrinterBlocksCardSaid : Prop := Claim7.holds Tryz.pinned (.plain (OpenSpec.ofChange printerBlocksSpec)) printerBlocksCard

/-- THE TIED CARD OF 'reparteelaw16.PrinterLines'. -/
def printerLinesCard : Claim7 := { stood := { row := printerLinesRow, standIns := [], harness := (true, "c2e139c16132486e360ca72769c01e9f958c49a1f47e09a00b978763fa4674d6"), looks := false }, kinds := [], alts := [], laidByText := true, laidKinds := [.data, .data, .data], laidTests := true, laidLooks := .later }
def PrinterLinesCardSaid : Prop := Claim7.holds Tryz.pinned (.plain (OpenSpec.ofChange printerLinesSpec)) printerLinesCard

/-- THE TIED CARD OF 'reparteelaw16.PrinterTells'. -/
def printerTellsCard : Claim7 := { stood := { row := printerTellsRow, standIns := [], harness := (true, "c2e139c16132486e360ca72769c01e9f958c49a1f47e09a00b978763fa4674d6"), looks := false }, kinds := [], alts := [], laidByText := true, laidKinds := [.data, .data, .data], laidTests := true, laidLooks := .later }
def PrinterTellsCardSaid : Prop := Claim7.holds Tryz.pinned (.plain (OpenSpec.ofChange printerTellsSpec)) printerTellsCard

/-- THE TIED CARD OF 'reparteelaw16.PrinterPlain'. -/
def printerPlainCard : Claim7 := { stood := { row := printerPlainRow, standIns := [], harness := (true, "c2e139c16132486e360ca72769c01e9f958c49a1f47e09a00b978763fa4674d6"), looks := false }, kinds := [], alts := [], laidByText := true, laidKinds := [.data, .data, .data], laidTests := true, laidLooks := .later }
def PrinterPlainCardSaid : Prop := Claim7.holds Tryz.pinned (.plain (OpenSpec.ofChange printerPlainSpec)) printerPlainCard

/-- THE TIED CARD OF 'reparteelaw16.PrinterParts'. -/
def printerPartsCard : Claim7 := { stood := { row := printerPartsRow, standIns := [], harness := (true, "c2e139c16132486e360ca72769c01e9f958c49a1f47e09a00b978763fa4674d6"), looks := false }, kinds := [], alts := [], laidByText := true, laidKinds := [.data, .data, .data], laidTests := true, laidLooks := .later }
def PrinterPartsCardSaid : Prop := Claim7.holds Tryz.pinned (.plain (OpenSpec.ofChange printerPartsSpec)) printerPartsCard

/-- THE TIED CARD OF 'reparteelaw16.PrinterRise'. -/
def printerRiseCard : Claim7 := { stood := { row := printerRiseRow, standIns := [], harness := (true, "c2e139c16132486e360ca72769c01e9f958c49a1f47e09a00b978763fa4674d6"), looks := false }, kinds := [], alts := [], laidByText := true, laidKinds := [.data, .data, .data], laidTests := true, laidLooks := .later }
def PrinterRiseCardSaid : Prop := Claim7.holds Tryz.pinned (.plain (OpenSpec.ofChange printerRiseSpec)) printerRiseCard

/-- THE SECOND FORM's CARD OF 'reparteelaw16.PrinterBlocks'. -/
def printerBlocksUptoCard : Claim7 := { stood := { row := printerBlocksUptoRow, standIns := [], harness := (true, "c2e139c16132486e360ca72769c01e9f958c49a1f47e09a00b978763fa4674d6"), looks := false }, kinds := [], alts := [], laidByText := true, laidKinds := [.data, .data, .data], laidTests := true, laidLooks := .later }
def PrinterBlocksUptoCardSaid : Prop := Claim7.holds Tryz.pinned (.plain (OpenSpec.upto printerBlocksSpec)) printerBlocksUptoCard

/-- THE SECOND FORM's CARD OF 'reparteelaw16.PrinterLines'. -/
def printerLinesUptoCard : Claim7 := { stood := { row := printerLinesUptoRow, standIns := [], harness := (true, "c2e139c16132486e360ca72769c01e9f958c49a1f47e09a00b978763fa4674d6"), looks := false }, kinds := [], alts := [], laidByText := true, laidKinds := [.data, .data, .data], laidTests := true, laidLooks := .later }
def PrinterLinesUptoCardSaid : Prop := Claim7.holds Tryz.pinned (.plain (OpenSpec.upto printerLinesSpec)) printerLinesUptoCard

/-- THE SECOND FORM's CARD OF 'reparteelaw16.PrinterTells'. -/
def printerTellsUptoCard : Claim7 := { stood := { row := printerTellsUptoRow, standIns := [], harness := (true, "c2e139c16132486e360ca72769c01e9f958c49a1f47e09a00b978763fa4674d6"), looks := false }, kinds := [], alts := [], laidByText := true, laidKinds := [.data, .data, .data], laidTests := true, laidLooks := .later }
def PrinterTellsUptoCardSaid : Prop := Claim7.holds Tryz.pinned (.plain (OpenSpec.upto printerTellsSpec)) printerTellsUptoCard

/-- THE SECOND FORM's CARD OF 'reparteelaw16.PrinterPlain'. -/
def printerPlainUptoCard : Claim7 := { stood := { row := printerPlainUptoRow, standIns := [], harness := (true, "c2e139c16132486e360ca72769c01e9f958c49a1f47e09a00b978763fa4674d6"), looks := false }, kinds := [], alts := [], laidByText := true, laidKinds := [.data, .data, .data], laidTests := true, laidLooks := .later }
def PrinterPlainUptoCardSaid : Prop := Claim7.holds Tryz.pinned (.plain (OpenSpec.upto printerPlainSpec)) printerPlainUptoCard

/-- THE SECOND FORM's CARD OF 'reparteelaw16.PrinterParts'. -/
def printerPartsUptoCard : Claim7 := { stood := { row := printerPartsUptoRow, standIns := [], harness := (true, "c2e139c16132486e360ca72769c01e9f958c49a1f47e09a00b978763fa4674d6"), looks := false }, kinds := [], alts := [], laidByText := true, laidKinds := [.data, .data, .data], laidTests := true, laidLooks := .later }
def PrinterPartsUptoCardSaid : Prop := Claim7.holds Tryz.pinned (.plain (OpenSpec.upto printerPartsSpec)) printerPartsUptoCard

/-- THE SECOND FORM's CARD OF 'reparteelaw16.PrinterRise'. -/
def printerRiseUptoCard : Claim7 := { stood := { row := printerRiseUptoRow, standIns := [], harness := (true, "c2e139c16132486e360ca72769c01e9f958c49a1f47e09a00b978763fa4674d6"), looks := false }, kinds := [], alts := [], laidByText := true, laidKinds := [.data, .data, .data], laidTests := true, laidLooks := .later }
def PrinterRiseUptoCardSaid : Prop := Claim7.holds Tryz.pinned (.plain (OpenSpec.upto printerRiseSpec)) printerRiseUptoCard
end Rows
end Go.Proofs.YtfmpdgeiodnnfaaGreatDoor
