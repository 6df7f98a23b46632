/-
  DERIVED. GIVEN WITH THE SEED: THE CARDS: each row of YteaaelhndaijoaaDoorRows.lean that lists a variable, with what it lists TIED to the program's text (the seventh form; the later family's looks); each row that meets fmt, with fmt's text TOLD by the authors' own Lean function (tested against real Go, not proved from fmt's source: count such statements apart). THE CARD IS WHAT COUNTS. Prove the row's statement (the work); the ties are given (YteaaelhndaijoaaDoorTie.lean); close each card by the builder's one call (the guide's Derived/Test/ToyasCard.lean, 'card_holds'). Laid BY PROGRAM, IN A SANDBOX (cutbox-door.mjs). By AI agents, Wed Nov 11 2026. No macro, syntax, notation, axiom, sorry.
-/
import Derived.Test.YteaaelhndaijoaaDoorRows
import GoSem.ClaimSeven
namespace Go.Proofs.YteaaelhndaijoaaDoor
namespace Rows

/-- THE TIED CARD OF 'reparteelaw17.ParseTerms'. -/
def parseTermsCard : Claim7 := { stood := { row := parseTermsRow, standIns := [], harness := (true, "a94886f706ac6d3544833caa7f47b966bd67b1e95deab47b12bc8d3c3187858f"), looks := true }, kinds := [], alts := [], laidByText := true, laidKinds := [.data, .data, .data, .sentinel, .sentinel], laidTests := true, laidLooks := .later }
def ParseTermsCardSaid : Prop := Claim7.holds Tryd.pinned (.plain (OpenSpec.ofChange parseTermsSpec)) parseTermsCard

/-- THE SECOND FORM's CARD OF 'reparteelaw17.ParseTerms'. -/
def parseTermsUptoCard : Claim7 := { stood := { row := parseTermsUptoRow, standIns := [], harness := (true, "a94886f706ac6d3544833caa7f47b966bd67b1e95deab47b12bc8d3c3187858f"), looks := true }, kinds := [], alts := [], laidByText := true, laidKinds := [.data, .data, .data, .sentinel, .sentinel], laidTests := true, laidLooks := .later }
def ParseTermsUptoCardSaid : Prop := Claim7.holds Tryd.pinned (.plain (OpenSpec.upto parseTermsSpec)) parseTermsUptoCard
end Rows
end Go.Proofs.YteaaelhndaijoaaDoor
