/-
  DERIVED. GIVEN WITH THE SEED: THE CARDS: each row of YtbjbljfmcpidmaaDoorRows.lean that lists a variable, with what it lists TIED to the program's text (the seventh form; the later family's looks); each row that meets fmt, with fmt's text TOLD by the authors' own Lean function (tested against real Go, not proved from fmt's source: count such statements apart). THE CARD IS WHAT COUNTS. Prove the row's statement (the work); the ties are given (YtbjbljfmcpidmaaDoorTie.lean); close each card by the builder's one call (the guide's Derived/Test/ToyasCard.lean, 'card_holds'). Laid BY PROGRAM, IN A SANDBOX (cutbox-door.mjs). By AI agents, Wed Nov 11 2026. No macro, syntax, notation, axiom, sorry.
-/
import Derived.Test.YtbjbljfmcpidmaaDoorRows
import GoSem.ClaimSeven
namespace Go.Proofs.YtbjbljfmcpidmaaDoor
namespace Rows

/-- THE TIED CARD OF 'estafettelaw10.HeaderReads'. -/
def headerReadsCard : Claim7 := { stood := { row := headerReadsRow, standIns := [], harness := (true, "ac3226568a1c46744ecf8d4d43f7aab87ede73edbaf5873ede95bbc0ad08cba3"), looks := false }, kinds := [], alts := [], laidByText := true, laidKinds := [.data, .pinned], laidTests := true, laidLooks := .later }
def HeaderReadsCardSaid : Prop := Claim7.holds Tryd.pinned (.plain (OpenSpec.ofChange headerReadsSpec)) headerReadsCard

/-- THE TIED CARD OF 'estafettelaw10.HeaderBack'. -/
def headerBackCard : Claim7 := { stood := { row := headerBackRow, standIns := [], harness := (true, "ac3226568a1c46744ecf8d4d43f7aab87ede73edbaf5873ede95bbc0ad08cba3"), looks := false }, kinds := [], alts := [], laidByText := true, laidKinds := [.data, .pinned], laidTests := true, laidLooks := .later }
def HeaderBackCardSaid : Prop := Claim7.holds Tryd.pinned (.plain (OpenSpec.ofChange headerBackSpec)) headerBackCard

/-- THE TIED CARD OF 'estafettelaw10.HeaderFolds'. -/
def headerFoldsCard : Claim7 := { stood := { row := headerFoldsRow, standIns := [], harness := (true, "ac3226568a1c46744ecf8d4d43f7aab87ede73edbaf5873ede95bbc0ad08cba3"), looks := false }, kinds := [], alts := [], laidByText := true, laidKinds := [.data, .pinned], laidTests := true, laidLooks := .later }
def HeaderFoldsCardSaid : Prop := Claim7.holds Tryd.pinned (.plain (OpenSpec.ofChange headerFoldsSpec)) headerFoldsCard

/-- THE TIED CARD OF 'estafettelaw10.HeaderKinds'. -/
def headerKindsCard : Claim7 := { stood := { row := headerKindsRow, standIns := [], harness := (true, "ac3226568a1c46744ecf8d4d43f7aab87ede73edbaf5873ede95bbc0ad08cba3"), looks := false }, kinds := [], alts := [], laidByText := true, laidKinds := [.data, .pinned], laidTests := true, laidLooks := .later }
def HeaderKindsCardSaid : Prop := Claim7.holds Tryd.pinned (.plain (OpenSpec.ofChange headerKindsSpec)) headerKindsCard

/-- THE SECOND FORM's CARD OF 'estafettelaw10.HeaderReads'. -/
def headerReadsUptoCard : Claim7 := { stood := { row := headerReadsUptoRow, standIns := [], harness := (true, "ac3226568a1c46744ecf8d4d43f7aab87ede73edbaf5873ede95bbc0ad08cba3"), looks := false }, kinds := [], alts := [], laidByText := true, laidKinds := [.data, .pinned], laidTests := true, laidLooks := .later }
def HeaderReadsUptoCardSaid : Prop := Claim7.holds Tryd.pinned (.plain (OpenSpec.upto headerReadsSpec)) headerReadsUptoCard

/-- THE SECOND FORM's CARD OF 'estafettelaw10.HeaderBack'. -/
def headerBackUptoCard : Claim7 := { stood := { row := headerBackUptoRow, standIns := [], harness := (true, "ac3226568a1c46744ecf8d4d43f7aab87ede73edbaf5873ede95bbc0ad08cba3"), looks := false }, kinds := [], alts := [], laidByText := true, laidKinds := [.data, .pinned], laidTests := true, laidLooks := .later }
def HeaderBackUptoCardSaid : Prop := Claim7.holds Tryd.pinned (.plain (OpenSpec.upto headerBackSpec)) headerBackUptoCard

/-- THE SECOND FORM's CARD OF 'estafettelaw10.HeaderFolds'. -/
def headerFoldsUptoCard : Claim7 := { stood := { row := headerFoldsUptoRow, standIns := [], harness := (true, "ac3226568a1c46744ecf8d4d43f7aab87ede73edbaf5873ede95bbc0ad08cba3"), looks := false }, kinds := [], alts := [], laidByText := true, laidKinds := [.data, .pinned], laidTests := true, laidLooks := .later }
def HeaderFoldsUptoCardSaid : Prop := Claim7.holds Tryd.pinned (.plain (OpenSpec.upto headerFoldsSpec)) headerFoldsUptoCard

/-- THE SECOND FORM's CARD OF 'estafettelaw10.HeaderKinds'. -/
def headerKindsUptoCard : Claim7 := { stood := { row := headerKindsUptoRow, standIns := [], harness := (true, "ac3226568a1c46744ecf8d4d43f7aab87ede73edbaf5873ede95bbc0ad08cba3"), looks := false }, kinds := [], alts := [], laidByText := true, laidKinds := [.data, .pinned], laidTests := true, laidLooks := .later }
def HeaderKindsUptoCardSaid : Prop := Claim7.holds Tryd.pinned (.plain (OpenSpec.upto headerKindsSpec)) headerKindsUptoCard
end Rows
end Go.Proofs.YtbjbljfmcpidmaaDoor
