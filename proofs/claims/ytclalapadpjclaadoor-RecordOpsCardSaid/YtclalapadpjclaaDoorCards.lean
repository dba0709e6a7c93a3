/-
  DERIVED. GIVEN WITH THE SEED: THE CARDS: each row of YtclalapadpjclaaDoorRows.lean that lists a variable, with what it lists TIED to the program's text (the seventh form; the later family's looks); each row that meets fmt, with fmt's text TOLD by the authors' own Lean function (tested against real Go, not proved from fmt's source: count such statements apart). THE CARD IS WHAT COUNTS. Prove the row's statement (the work); the ties are given (YtclalapadpjclaaDoorTie.lean); close each card by the builder's one call (the guide's Derived/Test/ToyasCard.lean, 'card_holds'). Laid BY PROGRAM, IN A SANDBOX (cutbox-door.mjs). By AI agents, Wed Nov 11 2026. No macro, syntax, notation, axiom, sorry.
-/
import Derived.Test.YtclalapadpjclaaDoorRows
import GoSem.ClaimSeven
namespace Go.Proofs.YtclalapadpjclaaDoor
namespace Rows

/-- THE TIED CARD OF 'mahoutlaw09.RecordApart'. -/
def recordApartCard : Claim7 := { stood := { row := recordApartRow, standIns := [], harness := (true, "413854bd8434d0880bd6c0787c4786626ae9ff5ed447d9c8b709dc78454c2b31"), looks := false }, kinds := [], alts := [], laidByText := true, laidKinds := [.data], laidTests := true, laidLooks := .later }
def RecordApartCardSaid : Prop := Claim7.holds Tryd.pinned (.plain (OpenSpec.ofChange recordApartSpec)) recordApartCard

/-- THE TIED CARD OF 'mahoutlaw09.RecordOps'. -/
def recordOpsCard : Claim7 := { stood := { row := recordOpsRow, standIns := [], harness := (true, "413854bd8434d0880bd6c0787c4786626ae9ff5ed447d9c8b709dc78454c2b31"), looks := false }, kinds := [], alts := [], laidByText := true, laidKinds := [.data], laidTests := true, laidLooks := .later }
def RecordOpsCardSaid : Prop := Claim7.holds Tryd.pinned (.plain (OpenSpec.ofChange recordOpsSpec)) recordOpsCard

/-- THE TIED CARD OF 'mahoutlaw09.RecordEncodes'. -/
def recordEncodesCard : Claim7 := { stood := { row := recordEncodesRow, standIns := [], harness := (true, "413854bd8434d0880bd6c0787c4786626ae9ff5ed447d9c8b709dc78454c2b31"), looks := false }, kinds := [], alts := [], laidByText := true, laidKinds := [.data], laidTests := true, laidLooks := .later }
def RecordEncodesCardSaid : Prop := Claim7.holds Tryd.pinned (.plain (OpenSpec.ofChange recordEncodesSpec)) recordEncodesCard

/-- THE TIED CARD OF 'mahoutlaw09.RecordDecodes'. -/
def recordDecodesCard : Claim7 := { stood := { row := recordDecodesRow, standIns := [], harness := (true, "413854bd8434d0880bd6c0787c4786626ae9ff5ed447d9c8b709dc78454c2b31"), looks := false }, kinds := [], alts := [], laidByText := true, laidKinds := [.data], laidTests := true, laidLooks := .later }
def RecordDecodesCardSaid : Prop := Claim7.holds Tryd.pinned (.plain (OpenSpec.ofChange recordDecodesSpec)) recordDecodesCard

/-- THE SECOND FORM's CARD OF 'mahoutlaw09.RecordApart'. -/
def recordApartUptoCard : Claim7 := { stood := { row := recordApartUptoRow, standIns := [], harness := (true, "413854bd8434d0880bd6c0787c4786626ae9ff5ed447d9c8b709dc78454c2b31"), looks := false }, kinds := [], alts := [], laidByText := true, laidKinds := [.data], laidTests := true, laidLooks := .later }
def RecordApartUptoCardSaid : Prop := Claim7.holds Tryd.pinned (.plain (OpenSpec.upto recordApartSpec)) recordApartUptoCard

/-- THE SECOND FORM's CARD OF 'mahoutlaw09.RecordOps'. -/
def recordOpsUptoCard : Claim7 := { stood := { row := recordOpsUptoRow, standIns := [], harness := (true, "413854bd8434d0880bd6c0787c4786626ae9ff5ed447d9c8b709dc78454c2b31"), looks := false }, kinds := [], alts := [], laidByText := true, laidKinds := [.data], laidTests := true, laidLooks := .later }
def RecordOpsUptoCardSaid : Prop := Claim7.holds Tryd.pinned (.plain (OpenSpec.upto recordOpsSpec)) recordOpsUptoCard

/-- THE SECOND FORM's CARD OF 'mahoutlaw09.RecordEncodes'. -/
def recordEncodesUptoCard : Claim7 := { stood := { row := recordEncodesUptoRow, standIns := [], harness := (true, "413854bd8434d0880bd6c0787c4786626ae9ff5ed447d9c8b709dc78454c2b31"), looks := false }, kinds := [], alts := [], laidByText := true, laidKinds := [.data], laidTests := true, laidLooks := .later }
def RecordEncodesUptoCardSaid : Prop := Claim7.holds Tryd.pinned (.plain (OpenSpec.upto recordEncodesSpec)) recordEncodesUptoCard

/-- THE SECOND FORM's CARD OF 'mahoutlaw09.RecordDecodes'. -/
def recordDecodesUptoCard : Claim7 := { stood := { row := recordDecodesUptoRow, standIns := [], harness := (true, "413854bd8434d0880bd6c0787c4786626ae9ff5ed447d9c8b709dc78454c2b31"), looks := false }, kinds := [], alts := [], laidByText := true, laidKinds := [.data], laidTests := true, laidLooks := .later }
def RecordDecodesUptoCardSaid : Prop := Claim7.holds Tryd.pinned (.plain (OpenSpec.upto recordDecodesSpec)) recordDecodesUptoCard
end Rows
end Go.Proofs.YtclalapadpjclaaDoor
