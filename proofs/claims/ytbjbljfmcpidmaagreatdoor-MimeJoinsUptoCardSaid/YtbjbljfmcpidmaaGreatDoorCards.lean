/-
  DERIVED. GIVEN WITH THE SEED: THE CARDS: each row of YtbjbljfmcpidmaaGreatDoorRows.lean that lists a variable, with what it lists TIED to the program's text (the seventh form; the later family's looks); each row that meets fmt, with fmt's text TOLD by the authors' own Lean function (tested against real Go, not proved from fmt's source: count such statements apart). THE CARD IS WHAT COUNTS. Prove the row's statement (the work); the ties are given (YtbjbljfmcpidmaaGreatDoorTie.lean); close each card by the builder's one call (the guide's Derived/Test/ToyasCard.lean, 'card_holds'). Laid BY PROGRAM, IN A SANDBOX (cutbox-door.mjs). By AI agents, Wed Nov 11 2026. No macro, syntax, notation, axiom, sorry.
-/
import Derived.Test.YtbjbljfmcpidmaaGreatDoorRows
import GoSem.ClaimSeven
namespace Go.Proofs.YtbjbljfmcpidmaaGreatDoor
namespace Rows

/-- THE TIED CARD OF 'estafettelaw10.HeaderTraces'. -/
def headerTracesCard : Claim7 := { stood := { row := headerTracesRow, standIns := [], harness := (true, "bed262913927729dff219e18863526a603d74b6ca0cb7759db1835849b0deba6"), looks := false }, kinds := [], alts := [], laidByText := true, laidKinds := [.data, .data, .data, .data, .data, .pinned], laidTests := true, laidLooks := .later }
def HeaderTracesCardSaid : Prop := Claim7.holds Tryz.pinned (.plain (OpenSpec.ofChange headerTracesSpec)) headerTracesCard

/-- THE TIED CARD OF 'estafettelaw11.MimeParts'. -/
def mimePartsCard : Claim7 := { stood := { row := mimePartsRow, standIns := [], harness := (true, "bed262913927729dff219e18863526a603d74b6ca0cb7759db1835849b0deba6"), looks := false }, kinds := [], alts := [], laidByText := true, laidKinds := [.data, .data, .data, .data, .pinned], laidTests := true, laidLooks := .later }
def MimePartsCardSaid : Prop := Claim7.holds Tryz.pinned (.plain (OpenSpec.ofChange mimePartsSpec)) mimePartsCard

/-- THE TIED CARD OF 'estafettelaw11.MimeSections'. -/
def mimeSectionsCard : Claim7 := { stood := { row := mimeSectionsRow, standIns := [], harness := (true, "bed262913927729dff219e18863526a603d74b6ca0cb7759db1835849b0deba6"), looks := false }, kinds := [], alts := [], laidByText := true, laidKinds := [.data, .data, .data, .data, .pinned], laidTests := true, laidLooks := .later }
def MimeSectionsCardSaid : Prop := Claim7.holds Tryz.pinned (.plain (OpenSpec.ofChange mimeSectionsSpec)) mimeSectionsCard

/-- THE TIED CARD OF 'estafettelaw11.MimeInside'. -/
def mimeInsideCard : Claim7 := { stood := { row := mimeInsideRow, standIns := [], harness := (true, "bed262913927729dff219e18863526a603d74b6ca0cb7759db1835849b0deba6"), looks := false }, kinds := [], alts := [], laidByText := true, laidKinds := [.data, .data, .data, .data, .pinned], laidTests := true, laidLooks := .later }
def MimeInsideCardSaid : Prop := Claim7.holds Tryz.pinned (.plain (OpenSpec.ofChange mimeInsideSpec)) mimeInsideCard

/-- THE TIED CARD OF 'estafettelaw11.MimeJoins'. -/
def mimeJoinsCard : Claim7 := { stood := { row := mimeJoinsRow, standIns := [], harness := (true, "bed262913927729dff219e18863526a603d74b6ca0cb7759db1835849b0deba6"), looks := false }, kinds := [], alts := [], laidByText := true, laidKinds := [.data, .data, .data, .data, .pinned], laidTests := true, laidLooks := .later }
def MimeJoinsCardSaid : Prop := Claim7.holds Tryz.pinned (.plain (OpenSpec.ofChange mimeJoinsSpec)) mimeJoinsCard

/-- THE TIED CARD OF 'estafettelaw11.MimeWhole'. -/
def mimeWholeCard : Claim7 := { stood := { row := mimeWholeRow, standIns := [], harness := (true, "bed262913927729dff219e18863526a603d74b6ca0cb7759db1835849b0deba6"), looks := false }, kinds := [], alts := [], laidByText := true, laidKinds := [.data, .data, .data, .data, .pinned], laidTests := true, laidLooks := .later }
def MimeWholeCardSaid : Prop := Claim7.holds Tryz.pinned (.plain (OpenSpec.ofChange mimeWholeSpec)) mimeWholeCard

/-- THE TIED CARD OF 'estafettelaw21.ImapfetchMatches'. -/
def imapfetchMatchesCard : Claim7 := { stood := { row := imapfetchMatchesRow, standIns := [], harness := (true, "bed262913927729dff219e18863526a603d74b6ca0cb7759db1835849b0deba6"), looks := false }, kinds := [], alts := [], laidByText := true, laidKinds := [.data, .data, .data, .data, .data, .pinned], laidTests := true, laidLooks := .later }
def ImapfetchMatchesCardSaid : Prop := Claim7.holds Tryz.pinned (.plain (OpenSpec.ofChange imapfetchMatchesSpec)) imapfetchMatchesCard

/-- THE TIED CARD OF 'estafettelaw21.ImapfetchNot'. -/
def imapfetchNotCard : Claim7 := { stood := { row := imapfetchNotRow, standIns := [], harness := (true, "bed262913927729dff219e18863526a603d74b6ca0cb7759db1835849b0deba6"), looks := false }, kinds := [], alts := [], laidByText := true, laidKinds := [.data, .data, .data, .data, .data, .pinned], laidTests := true, laidLooks := .later }
def ImapfetchNotCardSaid : Prop := Claim7.holds Tryz.pinned (.plain (OpenSpec.ofChange imapfetchNotSpec)) imapfetchNotCard

/-- THE TIED CARD OF 'estafettelaw21.ImapfetchParts'. -/
def imapfetchPartsCard : Claim7 := { stood := { row := imapfetchPartsRow, standIns := [], harness := (true, "bed262913927729dff219e18863526a603d74b6ca0cb7759db1835849b0deba6"), looks := false }, kinds := [], alts := [], laidByText := true, laidKinds := [.data, .data, .data, .data, .data, .pinned], laidTests := true, laidLooks := .later }
def ImapfetchPartsCardSaid : Prop := Claim7.holds Tryz.pinned (.plain (OpenSpec.ofChange imapfetchPartsSpec)) imapfetchPartsCard

/-- THE TIED CARD OF 'estafettelaw21.ImapfetchOrder'. -/
def imapfetchOrderCard : Claim7 := { stood := { row := imapfetchOrderRow, standIns := [], harness := (true, "bed262913927729dff219e18863526a603d74b6ca0cb7759db1835849b0deba6"), looks := false }, kinds := [], alts := [], laidByText := true, laidKinds := [.data, .data, .data, .data, .data, .pinned], laidTests := true, laidLooks := .later }
def ImapfetchOrderCardSaid : Prop := Claim7.holds Tryz.pinned (.plain (OpenSpec.ofChange imapfetchOrderSpec)) imapfetchOrderCard

/-- THE SECOND FORM's CARD OF 'estafettelaw10.HeaderTraces'. -/
def headerTracesUptoCard : Claim7 := { stood := { row := headerTracesUptoRow, standIns := [], harness := (true, "bed262913927729dff219e18863526a603d74b6ca0cb7759db1835849b0deba6"), looks := false }, kinds := [], alts := [], laidByText := true, laidKinds := [.data, .data, .data, .data, .data, .pinned], laidTests := true, laidLooks := .later }
def HeaderTracesUptoCardSaid : Prop := Claim7.holds Tryz.pinned (.plain (OpenSpec.upto headerTracesSpec)) headerTracesUptoCard

/-- THE SECOND FORM's CARD OF 'estafettelaw11.MimeParts'. -/
def mimePartsUptoCard : Claim7 := { stood := { row := mimePartsUptoRow, standIns := [], harness := (true, "bed262913927729dff219e18863526a603d74b6ca0cb7759db1835849b0deba6"), looks := false }, kinds := [], alts := [], laidByText := true, laidKinds := [.data, .data, .data, .data, .pinned], laidTests := true, laidLooks := .later }
def MimePartsUptoCardSaid : Prop := Claim7.holds Tryz.pinned (.plain (OpenSpec.upto mimePartsSpec)) mimePartsUptoCard

/-- THE SECOND FORM's CARD OF 'estafettelaw11.MimeSections'. -/
def mimeSectionsUptoCard : Claim7 := { stood := { row := mimeSectionsUptoRow, standIns := [], harness := (true, "bed262913927729dff219e18863526a603d74b6ca0cb7759db1835849b0deba6"), looks := false }, kinds := [], alts := [], laidByText := true, laidKinds := [.data, .data, .data, .data, .pinned], laidTests := true, laidLooks := .later }
def MimeSectionsUptoCardSaid : Prop := Claim7.holds Tryz.pinned (.plain (OpenSpec.upto mimeSectionsSpec)) mimeSectionsUptoCard

/-- THE SECOND FORM's CARD OF 'estafettelaw11.MimeInside'. -/
def mimeInsideUptoCard : Claim7 := { stood := { row := mimeInsideUptoRow, standIns := [], harness := (true, "bed262913927729dff219e18863526a603d74b6ca0cb7759db1835849b0deba6"), looks := false }, kinds := [], alts := [], laidByText := true, laidKinds := [.data, .data, .data, .data, .pinned], laidTests := true, laidLooks := .later }
def MimeInsideUptoCardSaid : Prop := Claim7.holds Tryz.pinned (.plain (OpenSpec.upto mimeInsideSpec)) mimeInsideUptoCard

/-- THE SECOND FORM's CARD OF 'estafettelaw11.MimeJoins'. -/
def mimeJoinsUptoCard : Claim7 := { stood := { row := mimeJoinsUptoRow, standIns := [], harness := (true, "bed262913927729dff219e18863526a603d74b6ca0cb7759db1835849b0deba6"), looks := false }, kinds := [], alts := [], laidByText := true, laidKinds := [.data, .data, .data, .data, .pinned], laidTests := true, laidLooks := .later }
def MimeJoinsUptoCardSaid : Prop := Claim7.holds Tryz.pinned (.plain (OpenSpec.upto mimeJoinsSpec)) mimeJoinsUptoCard

/-- THE SECOND FORM's CARD OF 'estafettelaw11.MimeWhole'. -/
def mimeWholeUptoCard : Claim7 := { stood := { row := mimeWholeUptoRow, standIns := [], harness := (true, "bed262913927729dff219e18863526a603d74b6ca0cb7759db1835849b0deba6"), looks := false }, kinds := [], alts := [], laidByText := true, laidKinds := [.data, .data, .data, .data, .pinned], laidTests := true, laidLooks := .later }
def MimeWholeUptoCardSaid : Prop := Claim7.holds Tryz.pinned (.plain (OpenSpec.upto mimeWholeSpec)) mimeWholeUptoCard

/-- THE SECOND FORM's CARD OF 'estafettelaw21.ImapfetchMatches'. -/
def imapfetchMatchesUptoCard : Claim7 := { stood := { row := imapfetchMatchesUptoRow, standIns := [], harness := (true, "bed262913927729dff219e18863526a603d74b6ca0cb7759db1835849b0deba6"), looks := false }, kinds := [], alts := [], laidByText := true, laidKinds := [.data, .data, .data, .data, .data, .pinned], laidTests := true, laidLooks := .later }
def ImapfetchMatchesUptoCardSaid : Prop := Claim7.holds Tryz.pinned (.plain (OpenSpec.upto imapfetchMatchesSpec)) imapfetchMatchesUptoCard

/-- THE SECOND FORM's CARD OF 'estafettelaw21.ImapfetchNot'. -/
def imapfetchNotUptoCard : Claim7 := { stood := { row := imapfetchNotUptoRow, standIns := [], harness := (true, "bed262913927729dff219e18863526a603d74b6ca0cb7759db1835849b0deba6"), looks := false }, kinds := [], alts := [], laidByText := true, laidKinds := [.data, .data, .data, .data, .data, .pinned], laidTests := true, laidLooks := .later }
def ImapfetchNotUptoCardSaid : Prop := Claim7.holds Tryz.pinned (.plain (OpenSpec.upto imapfetchNotSpec)) imapfetchNotUptoCard

/-- THE SECOND FORM's CARD OF 'estafettelaw21.ImapfetchParts'. -/
def imapfetchPartsUptoCard : Claim7 := { stood := { row := imapfetchPartsUptoRow, standIns := [], harness := (true, "bed262913927729dff219e18863526a603d74b6ca0cb7759db1835849b0deba6"), looks := false }, kinds := [], alts := [], laidByText := true, laidKinds := [.data, .data, .data, .data, .data, .pinned], laidTests := true, laidLooks := .later }
def ImapfetchPartsUptoCardSaid : Prop := Claim7.holds Tryz.pinned (.plain (OpenSpec.upto imapfetchPartsSpec)) imapfetchPartsUptoCard

/-- THE SECOND FORM's CARD OF 'estafettelaw21.ImapfetchOrder'. -/
def imapfetchOrderUptoCard : Claim7 := { stood := { row := imapfetchOrderUptoRow, standIns := [], harness := (true, "bed262913927729dff219e18863526a603d74b6ca0cb7759db1835849b0deba6"), looks := false }, kinds := [], alts := [], laidByText := true, laidKinds := [.data, .data, .data, .data, .data, .pinned], laidTests := true, laidLooks := .later }
def ImapfetchOrderUptoCardSaid : Prop := Claim7.holds Tryz.pinned (.plain (OpenSpec.upto imapfetchOrderSpec)) imapfetchOrderUptoCard
end Rows
end Go.Proofs.YtbjbljfmcpidmaaGreatDoor
