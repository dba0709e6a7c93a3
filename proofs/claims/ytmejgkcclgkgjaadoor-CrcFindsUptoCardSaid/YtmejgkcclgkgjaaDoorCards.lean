/-
  DERIVED. GIVEN WITH THE SEED: THE CARDS: each row of YtmejgkcclgkgjaaDoorRows.lean that lists a variable, with what it lists TIED to the program's text (the seventh form; the later family's looks); each row that meets fmt, with fmt's text TOLD by the authors' own Lean function (tested against real Go, not proved from fmt's source: count such statements apart). THE CARD IS WHAT COUNTS. Prove the row's statement (the work); the ties are given (YtmejgkcclgkgjaaDoorTie.lean); close each card by the builder's one call (the guide's Derived/Test/ToyasCard.lean, 'card_holds'). Laid BY PROGRAM, IN A SANDBOX (cutbox-door.mjs). By AI agents, Wed Nov 11 2026. No macro, syntax, notation, axiom, sorry.
-/
import Derived.Test.YtmejgkcclgkgjaaDoorRows
import GoSem.ClaimSeven
namespace Go.Proofs.YtmejgkcclgkgjaaDoor
namespace Rows

/-- THE TIED CARD OF 'mahoutlaw01.CrcSums'. -/
def crcSumsCard : Claim7 := { stood := { row := crcSumsRow, standIns := [], harness := (true, "7e153ee4c9ce388e7fbf9d9f6ff2a4b641ec7bb19c7e5c971e6682f2e77e62c4"), looks := false }, kinds := [], alts := [], laidByText := true, laidKinds := [.data], laidTests := true, laidLooks := .later }
def CrcSumsCardSaid : Prop := Claim7.holds Tryd.pinned (.plain (OpenSpec.ofChange crcSumsSpec)) crcSumsCard

/-- THE TIED CARD OF 'mahoutlaw01.CrcBursts'. -/
def crcBurstsCard : Claim7 := { stood := { row := crcBurstsRow, standIns := [], harness := (true, "7e153ee4c9ce388e7fbf9d9f6ff2a4b641ec7bb19c7e5c971e6682f2e77e62c4"), looks := false }, kinds := [], alts := [], laidByText := true, laidKinds := [.data], laidTests := true, laidLooks := .later }
def CrcBurstsCardSaid : Prop := Claim7.holds Tryd.pinned (.plain (OpenSpec.ofChange crcBurstsSpec)) crcBurstsCard

/-- THE TIED CARD OF 'mahoutlaw01.CrcAffine'. -/
def crcAffineCard : Claim7 := { stood := { row := crcAffineRow, standIns := [], harness := (true, "7e153ee4c9ce388e7fbf9d9f6ff2a4b641ec7bb19c7e5c971e6682f2e77e62c4"), looks := false }, kinds := [], alts := [], laidByText := true, laidKinds := [.data], laidTests := true, laidLooks := .later }
def CrcAffineCardSaid : Prop := Claim7.holds Tryd.pinned (.plain (OpenSpec.ofChange crcAffineSpec)) crcAffineCard

/-- THE TIED CARD OF 'mahoutlaw01.CrcChunks'. -/
def crcChunksCard : Claim7 := { stood := { row := crcChunksRow, standIns := [], harness := (true, "7e153ee4c9ce388e7fbf9d9f6ff2a4b641ec7bb19c7e5c971e6682f2e77e62c4"), looks := false }, kinds := [], alts := [], laidByText := true, laidKinds := [.data], laidTests := true, laidLooks := .later }
def CrcChunksCardSaid : Prop := Claim7.holds Tryd.pinned (.plain (OpenSpec.ofChange crcChunksSpec)) crcChunksCard

/-- THE TIED CARD OF 'mahoutlaw01.CrcFinds'. -/
def crcFindsCard : Claim7 := { stood := { row := crcFindsRow, standIns := [], harness := (true, "7e153ee4c9ce388e7fbf9d9f6ff2a4b641ec7bb19c7e5c971e6682f2e77e62c4"), looks := false }, kinds := [], alts := [], laidByText := true, laidKinds := [.data], laidTests := true, laidLooks := .later }
def CrcFindsCardSaid : Prop := Claim7.holds Tryd.pinned (.plain (OpenSpec.ofChange crcFindsSpec)) crcFindsCard

/-- THE TIED CARD OF 'mahoutlaw01.CrcExtends'. -/
def crcExtendsCard : Claim7 := { stood := { row := crcExtendsRow, standIns := [], harness := (true, "7e153ee4c9ce388e7fbf9d9f6ff2a4b641ec7bb19c7e5c971e6682f2e77e62c4"), looks := false }, kinds := [], alts := [], laidByText := true, laidKinds := [.data], laidTests := true, laidLooks := .later }
def CrcExtendsCardSaid : Prop := Claim7.holds Tryd.pinned (.plain (OpenSpec.ofChange crcExtendsSpec)) crcExtendsCard

/-- THE TIED CARD OF 'mahoutlaw01.CrcJoins'. -/
def crcJoinsCard : Claim7 := { stood := { row := crcJoinsRow, standIns := [], harness := (true, "7e153ee4c9ce388e7fbf9d9f6ff2a4b641ec7bb19c7e5c971e6682f2e77e62c4"), looks := false }, kinds := [], alts := [], laidByText := true, laidKinds := [.data], laidTests := true, laidLooks := .later }
def CrcJoinsCardSaid : Prop := Claim7.holds Tryd.pinned (.plain (OpenSpec.ofChange crcJoinsSpec)) crcJoinsCard

/-- THE SECOND FORM's CARD OF 'mahoutlaw01.CrcSums'. -/
def crcSumsUptoCard : Claim7 := { stood := { row := crcSumsUptoRow, standIns := [], harness := (true, "7e153ee4c9ce388e7fbf9d9f6ff2a4b641ec7bb19c7e5c971e6682f2e77e62c4"), looks := false }, kinds := [], alts := [], laidByText := true, laidKinds := [.data], laidTests := true, laidLooks := .later }
def CrcSumsUptoCardSaid : Prop := Claim7.holds Tryd.pinned (.plain (OpenSpec.upto crcSumsSpec)) crcSumsUptoCard

/-- THE SECOND FORM's CARD OF 'mahoutlaw01.CrcBursts'. -/
def crcBurstsUptoCard : Claim7 := { stood := { row := crcBurstsUptoRow, standIns := [], harness := (true, "7e153ee4c9ce388e7fbf9d9f6ff2a4b641ec7bb19c7e5c971e6682f2e77e62c4"), looks := false }, kinds := [], alts := [], laidByText := true, laidKinds := [.data], laidTests := true, laidLooks := .later }
def CrcBurstsUptoCardSaid : Prop := Claim7.holds Tryd.pinned (.plain (OpenSpec.upto crcBurstsSpec)) crcBurstsUptoCard

/-- THE SECOND FORM's CARD OF 'mahoutlaw01.CrcAffine'. -/
def crcAffineUptoCard : Claim7 := { stood := { row := crcAffineUptoRow, standIns := [], harness := (true, "7e153ee4c9ce388e7fbf9d9f6ff2a4b641ec7bb19c7e5c971e6682f2e77e62c4"), looks := false }, kinds := [], alts := [], laidByText := true, laidKinds := [.data], laidTests := true, laidLooks := .later }
def CrcAffineUptoCardSaid : Prop := Claim7.holds Tryd.pinned (.plain (OpenSpec.upto crcAffineSpec)) crcAffineUptoCard

/-- THE SECOND FORM's CARD OF 'mahoutlaw01.CrcChunks'. -/
def crcChunksUptoCard : Claim7 := { stood := { row := crcChunksUptoRow, standIns := [], harness := (true, "7e153ee4c9ce388e7fbf9d9f6ff2a4b641ec7bb19c7e5c971e6682f2e77e62c4"), looks := false }, kinds := [], alts := [], laidByText := true, laidKinds := [.data], laidTests := true, laidLooks := .later }
def CrcChunksUptoCardSaid : Prop := Claim7.holds Tryd.pinned (.plain (OpenSpec.upto crcChunksSpec)) crcChunksUptoCard

/-- THE SECOND FORM's CARD OF 'mahoutlaw01.CrcFinds'. -/
def crcFindsUptoCard : Claim7 := { stood := { row := crcFindsUptoRow, standIns := [], harness := (true, "7e153ee4c9ce388e7fbf9d9f6ff2a4b641ec7bb19c7e5c971e6682f2e77e62c4"), looks := false }, kinds := [], alts := [], laidByText := true, laidKinds := [.data], laidTests := true, laidLooks := .later }
def CrcFindsUptoCardSaid : Prop := Claim7.holds Tryd.pinned (.plain (OpenSpec.upto crcFindsSpec)) crcFindsUptoCard

/-- THE SECOND FORM's CARD OF 'mahoutlaw01.CrcExtends'. -/
def crcExtendsUptoCard : Claim7 := { stood := { row := crcExtendsUptoRow, standIns := [], harness := (true, "7e153ee4c9ce388e7fbf9d9f6ff2a4b641ec7bb19c7e5c971e6682f2e77e62c4"), looks := false }, kinds := [], alts := [], laidByText := true, laidKinds := [.data], laidTests := true, laidLooks := .later }
def CrcExtendsUptoCardSaid : Prop := Claim7.holds Tryd.pinned (.plain (OpenSpec.upto crcExtendsSpec)) crcExtendsUptoCard

/-- THE SECOND FORM's CARD OF 'mahoutlaw01.CrcJoins'. -/
def crcJoinsUptoCard : Claim7 := { stood := { row := crcJoinsUptoRow, standIns := [], harness := (true, "7e153ee4c9ce388e7fbf9d9f6ff2a4b641ec7bb19c7e5c971e6682f2e77e62c4"), looks := false }, kinds := [], alts := [], laidByText := true, laidKinds := [.data], laidTests := true, laidLooks := .later }
def CrcJoinsUptoCardSaid : Prop := Claim7.holds Tryd.pinned (.plain (OpenSpec.upto crcJoinsSpec)) crcJoinsUptoCard
end Rows
end Go.Proofs.YtmejgkcclgkgjaaDoor
