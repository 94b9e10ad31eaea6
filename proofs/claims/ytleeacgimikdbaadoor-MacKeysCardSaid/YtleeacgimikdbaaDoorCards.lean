/-
  DERIVED. GIVEN WITH THE SEED: THE CARDS: each row of YtleeacgimikdbaaDoorRows.lean that lists a variable, with what it lists TIED to the program's text (the seventh form; the later family's looks); each row that meets fmt, with fmt's text TOLD by the authors' own Lean function (tested against real Go, not proved from fmt's source: count such statements apart). THE CARD IS WHAT COUNTS. Prove the row's statement (the work); the ties are given (YtleeacgimikdbaaDoorTie.lean); close each card by the builder's one call (the guide's Derived/Test/ToyasCard.lean, 'card_holds'). Laid BY PROGRAM, IN A SANDBOX (cutbox-door.mjs). By AI agents, Wed Nov 11 2026. No macro, syntax, notation, axiom, sorry.
-/
import Derived.Test.YtleeacgimikdbaaDoorRows
import GoSem.ClaimSeven
namespace Go.Proofs.YtleeacgimikdbaaDoor
namespace Rows

/-- THE TIED CARD OF 'liverylaw01.ShaSums'. -/
def shaSumsCard : Claim7 := { stood := { row := shaSumsRow, standIns := [], harness := (true, "f7001c92252531439453b62c96ebb1debae8cc17c94ada005f886c9a7a6f2c6a"), looks := false }, kinds := [], alts := [], laidByText := true, laidKinds := [.data], laidTests := true, laidLooks := .later }
def ShaSumsCardSaid : Prop := Claim7.holds Tryd.pinned (.plain (OpenSpec.ofChange shaSumsSpec)) shaSumsCard

/-- THE TIED CARD OF 'liverylaw01.ShaLong'. -/
def shaLongCard : Claim7 := { stood := { row := shaLongRow, standIns := [], harness := (true, "f7001c92252531439453b62c96ebb1debae8cc17c94ada005f886c9a7a6f2c6a"), looks := false }, kinds := [], alts := [], laidByText := true, laidKinds := [.data], laidTests := true, laidLooks := .later }
def ShaLongCardSaid : Prop := Claim7.holds Tryd.pinned (.plain (OpenSpec.ofChange shaLongSpec)) shaLongCard

/-- THE TIED CARD OF 'liverylaw01.ShaHex'. -/
def shaHexCard : Claim7 := { stood := { row := shaHexRow, standIns := [], harness := (true, "f7001c92252531439453b62c96ebb1debae8cc17c94ada005f886c9a7a6f2c6a"), looks := false }, kinds := [], alts := [], laidByText := true, laidKinds := [.data], laidTests := true, laidLooks := .later }
def ShaHexCardSaid : Prop := Claim7.holds Tryd.pinned (.plain (OpenSpec.ofChange shaHexSpec)) shaHexCard

/-- THE TIED CARD OF 'liverylaw01.ShaHexApart'. -/
def shaHexApartCard : Claim7 := { stood := { row := shaHexApartRow, standIns := [], harness := (true, "f7001c92252531439453b62c96ebb1debae8cc17c94ada005f886c9a7a6f2c6a"), looks := false }, kinds := [], alts := [], laidByText := true, laidKinds := [.data], laidTests := true, laidLooks := .later }
def ShaHexApartCardSaid : Prop := Claim7.holds Tryd.pinned (.plain (OpenSpec.ofChange shaHexApartSpec)) shaHexApartCard

/-- THE TIED CARD OF 'liverylaw01.ShaStays'. -/
def shaStaysCard : Claim7 := { stood := { row := shaStaysRow, standIns := [], harness := (true, "f7001c92252531439453b62c96ebb1debae8cc17c94ada005f886c9a7a6f2c6a"), looks := false }, kinds := [], alts := [], laidByText := true, laidKinds := [.data], laidTests := true, laidLooks := .later }
def ShaStaysCardSaid : Prop := Claim7.holds Tryd.pinned (.plain (OpenSpec.ofChange shaStaysSpec)) shaStaysCard

/-- THE TIED CARD OF 'liverylaw02.MacTags'. -/
def macTagsCard : Claim7 := { stood := { row := macTagsRow, standIns := [], harness := (true, "f7001c92252531439453b62c96ebb1debae8cc17c94ada005f886c9a7a6f2c6a"), looks := false }, kinds := [], alts := [], laidByText := true, laidKinds := [.data], laidTests := true, laidLooks := .later }
def MacTagsCardSaid : Prop := Claim7.holds Tryd.pinned (.plain (OpenSpec.ofChange macTagsSpec)) macTagsCard

/-- THE TIED CARD OF 'liverylaw02.MacRight'. -/
def macRightCard : Claim7 := { stood := { row := macRightRow, standIns := [], harness := (true, "f7001c92252531439453b62c96ebb1debae8cc17c94ada005f886c9a7a6f2c6a"), looks := false }, kinds := [], alts := [], laidByText := true, laidKinds := [.data], laidTests := true, laidLooks := .later }
def MacRightCardSaid : Prop := Claim7.holds Tryd.pinned (.plain (OpenSpec.ofChange macRightSpec)) macRightCard

/-- THE TIED CARD OF 'liverylaw02.MacTurned'. -/
def macTurnedCard : Claim7 := { stood := { row := macTurnedRow, standIns := [], harness := (true, "f7001c92252531439453b62c96ebb1debae8cc17c94ada005f886c9a7a6f2c6a"), looks := false }, kinds := [], alts := [], laidByText := true, laidKinds := [.data], laidTests := true, laidLooks := .later }
def MacTurnedCardSaid : Prop := Claim7.holds Tryd.pinned (.plain (OpenSpec.ofChange macTurnedSpec)) macTurnedCard

/-- THE TIED CARD OF 'liverylaw02.MacParts'. -/
def macPartsCard : Claim7 := { stood := { row := macPartsRow, standIns := [], harness := (true, "f7001c92252531439453b62c96ebb1debae8cc17c94ada005f886c9a7a6f2c6a"), looks := false }, kinds := [], alts := [], laidByText := true, laidKinds := [.data], laidTests := true, laidLooks := .later }
def MacPartsCardSaid : Prop := Claim7.holds Tryd.pinned (.plain (OpenSpec.ofChange macPartsSpec)) macPartsCard

/-- THE TIED CARD OF 'liverylaw02.MacStays'. -/
def macStaysCard : Claim7 := { stood := { row := macStaysRow, standIns := [], harness := (true, "f7001c92252531439453b62c96ebb1debae8cc17c94ada005f886c9a7a6f2c6a"), looks := false }, kinds := [], alts := [], laidByText := true, laidKinds := [.data], laidTests := true, laidLooks := .later }
def MacStaysCardSaid : Prop := Claim7.holds Tryd.pinned (.plain (OpenSpec.ofChange macStaysSpec)) macStaysCard

/-- THE TIED CARD OF 'liverylaw02.MacKeys'. -/
def macKeysCard : Claim7 := { stood := { row := macKeysRow, standIns := [], harness := (true, "f7001c92252531439453b62c96ebb1debae8cc17c94ada005f886c9a7a6f2c6a"), looks := false }, kinds := [], alts := [], laidByText := true, laidKinds := [.data], laidTests := true, laidLooks := .later }
def MacKeysCardSaid : Prop := Claim7.holds Tryd.pinned (.plain (OpenSpec.ofChange macKeysSpec)) macKeysCard

/-- THE SECOND FORM's CARD OF 'liverylaw01.ShaSums'. -/
def shaSumsUptoCard : Claim7 := { stood := { row := shaSumsUptoRow, standIns := [], harness := (true, "f7001c92252531439453b62c96ebb1debae8cc17c94ada005f886c9a7a6f2c6a"), looks := false }, kinds := [], alts := [], laidByText := true, laidKinds := [.data], laidTests := true, laidLooks := .later }
def ShaSumsUptoCardSaid : Prop := Claim7.holds Tryd.pinned (.plain (OpenSpec.upto shaSumsSpec)) shaSumsUptoCard

/-- THE SECOND FORM's CARD OF 'liverylaw01.ShaLong'. -/
def shaLongUptoCard : Claim7 := { stood := { row := shaLongUptoRow, standIns := [], harness := (true, "f7001c92252531439453b62c96ebb1debae8cc17c94ada005f886c9a7a6f2c6a"), looks := false }, kinds := [], alts := [], laidByText := true, laidKinds := [.data], laidTests := true, laidLooks := .later }
def ShaLongUptoCardSaid : Prop := Claim7.holds Tryd.pinned (.plain (OpenSpec.upto shaLongSpec)) shaLongUptoCard

/-- THE SECOND FORM's CARD OF 'liverylaw01.ShaHex'. -/
def shaHexUptoCard : Claim7 := { stood := { row := shaHexUptoRow, standIns := [], harness := (true, "f7001c92252531439453b62c96ebb1debae8cc17c94ada005f886c9a7a6f2c6a"), looks := false }, kinds := [], alts := [], laidByText := true, laidKinds := [.data], laidTests := true, laidLooks := .later }
def ShaHexUptoCardSaid : Prop := Claim7.holds Tryd.pinned (.plain (OpenSpec.upto shaHexSpec)) shaHexUptoCard

/-- THE SECOND FORM's CARD OF 'liverylaw01.ShaHexApart'. -/
def shaHexApartUptoCard : Claim7 := { stood := { row := shaHexApartUptoRow, standIns := [], harness := (true, "f7001c92252531439453b62c96ebb1debae8cc17c94ada005f886c9a7a6f2c6a"), looks := false }, kinds := [], alts := [], laidByText := true, laidKinds := [.data], laidTests := true, laidLooks := .later }
def ShaHexApartUptoCardSaid : Prop := Claim7.holds Tryd.pinned (.plain (OpenSpec.upto shaHexApartSpec)) shaHexApartUptoCard

/-- THE SECOND FORM's CARD OF 'liverylaw01.ShaStays'. -/
def shaStaysUptoCard : Claim7 := { stood := { row := shaStaysUptoRow, standIns := [], harness := (true, "f7001c92252531439453b62c96ebb1debae8cc17c94ada005f886c9a7a6f2c6a"), looks := false }, kinds := [], alts := [], laidByText := true, laidKinds := [.data], laidTests := true, laidLooks := .later }
def ShaStaysUptoCardSaid : Prop := Claim7.holds Tryd.pinned (.plain (OpenSpec.upto shaStaysSpec)) shaStaysUptoCard

/-- THE SECOND FORM's CARD OF 'liverylaw02.MacTags'. -/
def macTagsUptoCard : Claim7 := { stood := { row := macTagsUptoRow, standIns := [], harness := (true, "f7001c92252531439453b62c96ebb1debae8cc17c94ada005f886c9a7a6f2c6a"), looks := false }, kinds := [], alts := [], laidByText := true, laidKinds := [.data], laidTests := true, laidLooks := .later }
def MacTagsUptoCardSaid : Prop := Claim7.holds Tryd.pinned (.plain (OpenSpec.upto macTagsSpec)) macTagsUptoCard

/-- THE SECOND FORM's CARD OF 'liverylaw02.MacRight'. -/
def macRightUptoCard : Claim7 := { stood := { row := macRightUptoRow, standIns := [], harness := (true, "f7001c92252531439453b62c96ebb1debae8cc17c94ada005f886c9a7a6f2c6a"), looks := false }, kinds := [], alts := [], laidByText := true, laidKinds := [.data], laidTests := true, laidLooks := .later }
def MacRightUptoCardSaid : Prop := Claim7.holds Tryd.pinned (.plain (OpenSpec.upto macRightSpec)) macRightUptoCard

/-- THE SECOND FORM's CARD OF 'liverylaw02.MacTurned'. -/
def macTurnedUptoCard : Claim7 := { stood := { row := macTurnedUptoRow, standIns := [], harness := (true, "f7001c92252531439453b62c96ebb1debae8cc17c94ada005f886c9a7a6f2c6a"), looks := false }, kinds := [], alts := [], laidByText := true, laidKinds := [.data], laidTests := true, laidLooks := .later }
def MacTurnedUptoCardSaid : Prop := Claim7.holds Tryd.pinned (.plain (OpenSpec.upto macTurnedSpec)) macTurnedUptoCard

/-- THE SECOND FORM's CARD OF 'liverylaw02.MacParts'. -/
def macPartsUptoCard : Claim7 := { stood := { row := macPartsUptoRow, standIns := [], harness := (true, "f7001c92252531439453b62c96ebb1debae8cc17c94ada005f886c9a7a6f2c6a"), looks := false }, kinds := [], alts := [], laidByText := true, laidKinds := [.data], laidTests := true, laidLooks := .later }
def MacPartsUptoCardSaid : Prop := Claim7.holds Tryd.pinned (.plain (OpenSpec.upto macPartsSpec)) macPartsUptoCard

/-- THE SECOND FORM's CARD OF 'liverylaw02.MacStays'. -/
def macStaysUptoCard : Claim7 := { stood := { row := macStaysUptoRow, standIns := [], harness := (true, "f7001c92252531439453b62c96ebb1debae8cc17c94ada005f886c9a7a6f2c6a"), looks := false }, kinds := [], alts := [], laidByText := true, laidKinds := [.data], laidTests := true, laidLooks := .later }
def MacStaysUptoCardSaid : Prop := Claim7.holds Tryd.pinned (.plain (OpenSpec.upto macStaysSpec)) macStaysUptoCard

/-- THE SECOND FORM's CARD OF 'liverylaw02.MacKeys'. -/
def macKeysUptoCard : Claim7 := { stood := { row := macKeysUptoRow, standIns := [], harness := (true, "f7001c92252531439453b62c96ebb1debae8cc17c94ada005f886c9a7a6f2c6a"), looks := false }, kinds := [], alts := [], laidByText := true, laidKinds := [.data], laidTests := true, laidLooks := .later }
def MacKeysUptoCardSaid : Prop := Claim7.holds Tryd.pinned (.plain (OpenSpec.upto macKeysSpec)) macKeysUptoCard
end Rows
end Go.Proofs.YtleeacgimikdbaaDoor
