/-
  DERIVED. GIVEN WITH THE SEED: THE CARDS: each row of YtaifamiafiefkaaGreatDoorRows.lean that lists a variable, with what it lists TIED to the program's text (the seventh form; the later family's looks); each row that meets fmt, with fmt's text TOLD by the authors' own Lean function (tested against real Go, not proved from fmt's source: count such statements apart). THE CARD IS WHAT COUNTS. Prove the row's statement (the work); the ties are given (YtaifamiafiefkaaGreatDoorTie.lean); close each card by the builder's one call (the guide's Derived/Test/ToyasCard.lean, 'card_holds'). Laid BY PROGRAM, IN A SANDBOX (cutbox-door.mjs). By AI agents, Wed Nov 11 2026. No macro, syntax, notation, axiom, sorry.
-/
import Derived.Test.YtaifamiafiefkaaGreatDoorRows
import GoSem.ClaimSeven
namespace Go.Proofs.YtaifamiafiefkaaGreatDoor
namespace Rows

/-- THE TIED CARD OF 'reparteelaw16.PrinterTokens'. -/
def printerTokensCard : Claim7 := { stood := { row := printerTokensRow, standIns := [], harness := (true, "afb1572fe9993dfcd85bb24c29b618b31e7e20648c350caaa6a819ea8ce3124f"), looks := true }, kinds := [], alts := [], laidByText := true, laidKinds := [.data, .data, .data, .sentinel, .sentinel], laidTests := true, laidLooks := .later }
def PrinterTokensCardSaid : Prop := Claim7.holds Tryz.pinned (.plain (OpenSpec.ofChange printerTokensSpec)) printerTokensCard

/-- THE SECOND FORM's CARD OF 'reparteelaw16.PrinterTokens'. -/
def printerTokensUptoCard : Claim7 := { stood := { row := printerTokensUptoRow, standIns := [], harness := (true, "afb1572fe9993dfcd85bb24c29b618b31e7e20648c350caaa6a819ea8ce3124f"), looks := true }, kinds := [], alts := [], laidByText := true, laidKinds := [.data, .data, .data, .sentinel, .sentinel], laidTests := true, laidLooks := .later }
def PrinterTokensUptoCardSaid : Prop := Claim7.holds Tryz.pinned (.plain (OpenSpec.upto printerTokensSpec)) printerTokensUptoCard
end Rows
end Go.Proofs.YtaifamiafiefkaaGreatDoor
