/-
  DERIVED. GIVEN WITH THE SEED: THE CARDS: each row of YtpbofigfcdojgaaDoorRows.lean that lists a variable, with what it lists TIED to the program's text (the seventh form; the later family's looks); each row that meets fmt, with fmt's text TOLD by the authors' own Lean function (tested against real Go, not proved from fmt's source: count such statements apart). THE CARD IS WHAT COUNTS. Prove the row's statement (the work); the ties are given (YtpbofigfcdojgaaDoorTie.lean); close each card by the builder's one call (the guide's Derived/Test/ToyasCard.lean, 'card_holds'). Laid BY PROGRAM, IN A SANDBOX (cutbox-door.mjs). By AI agents, Wed Nov 11 2026. No macro, syntax, notation, axiom, sorry.
-/
import Derived.Test.YtpbofigfcdojgaaDoorRows
import GoSem.ClaimSeven
namespace Go.Proofs.YtpbofigfcdojgaaDoor
namespace Rows

/-- THE TIED CARD OF 'mahouttop.TopSealed'. -/
def topSealedCard : Claim7 := { stood := { row := topSealedRow, standIns := [], harness := (true, "1d8082b9a5785cc464acd069cb9c3ffd28175b4340d6f5b886a37af75458de76"), looks := false }, kinds := [], alts := [], laidByText := true, laidKinds := [.data], laidTests := true, laidLooks := .later }
def TopSealedCardSaid : Prop := Claim7.holds Tryd.pinned (.plain (OpenSpec.ofChange topSealedSpec)) topSealedCard

/-- THE SECOND FORM's CARD OF 'mahouttop.TopSealed'. -/
def topSealedUptoCard : Claim7 := { stood := { row := topSealedUptoRow, standIns := [], harness := (true, "1d8082b9a5785cc464acd069cb9c3ffd28175b4340d6f5b886a37af75458de76"), looks := false }, kinds := [], alts := [], laidByText := true, laidKinds := [.data], laidTests := true, laidLooks := .later }
def TopSealedUptoCardSaid : Prop := Claim7.holds Tryd.pinned (.plain (OpenSpec.upto topSealedSpec)) topSealedUptoCard
end Rows
end Go.Proofs.YtpbofigfcdojgaaDoor
