/-
  DERIVED. GIVEN WITH THE SEED: THE CARDS: each row of YtgokmelgnmejlaaDoorRows.lean that lists a variable, with what it lists TIED to the program's text (the seventh form; the later family's looks); each row that meets fmt, with fmt's text TOLD by the authors' own Lean function (tested against real Go, not proved from fmt's source: count such statements apart). THE CARD IS WHAT COUNTS. Prove the row's statement (the work); the ties are given (YtgokmelgnmejlaaDoorTie.lean); close each card by the builder's one call (the guide's Derived/Test/ToyasCard.lean, 'card_holds'). Laid BY PROGRAM, IN A SANDBOX (cutbox-door.mjs). By AI agents, Wed Nov 11 2026. No macro, syntax, notation, axiom, sorry.
-/
import Derived.Test.YtgokmelgnmejlaaDoorRows
import GoSem.ClaimSeven
namespace Go.Proofs.YtgokmelgnmejlaaDoor
namespace Rows

/-- THE TIED CARD OF 'reparteelaw17.ParseRanks'. -/
def parseRanksCard : Claim7 := { stood := { row := parseRanksRow, standIns := [], harness := (true, "779c7bf5abfea376e7474c4ffc29f64de0c5c02c5a25aaf7bd7fde1cb4fca2ab"), looks := true }, kinds := [], alts := [], laidByText := true, laidKinds := [.data, .data, .data, .sentinel, .sentinel], laidTests := true, laidLooks := .later }
def ParseRanksCardSaid : Prop := Claim7.holds Tryd.pinned (.plain (OpenSpec.ofChange parseRanksSpec)) parseRanksCard

/-- THE SECOND FORM's CARD OF 'reparteelaw17.ParseRanks'. -/
def parseRanksUptoCard : Claim7 := { stood := { row := parseRanksUptoRow, standIns := [], harness := (true, "779c7bf5abfea376e7474c4ffc29f64de0c5c02c5a25aaf7bd7fde1cb4fca2ab"), looks := true }, kinds := [], alts := [], laidByText := true, laidKinds := [.data, .data, .data, .sentinel, .sentinel], laidTests := true, laidLooks := .later }
def ParseRanksUptoCardSaid : Prop := Claim7.holds Tryd.pinned (.plain (OpenSpec.upto parseRanksSpec)) parseRanksUptoCard
end Rows
end Go.Proofs.YtgokmelgnmejlaaDoor
