/-
  DERIVED. GIVEN WITH THE SEED: THE CARDS: each row of YtbobbkgdbfcblaaDoorRows.lean that lists a variable, with what it lists TIED to the program's text (the seventh form; the later family's looks); each row that meets fmt, with fmt's text TOLD by the authors' own Lean function (tested against real Go, not proved from fmt's source: count such statements apart). THE CARD IS WHAT COUNTS. Prove the row's statement (the work); the ties are given (YtbobbkgdbfcblaaDoorTie.lean); close each card by the builder's one call (the guide's Derived/Test/ToyasCard.lean, 'card_holds'). Laid BY PROGRAM, IN A SANDBOX (cutbox-door.mjs). By AI agents, Wed Nov 11 2026. No macro, syntax, notation, axiom, sorry.
-/
import Derived.Test.YtbobbkgdbfcblaaDoorRows
import GoSem.ClaimSeven
namespace Go.Proofs.YtbobbkgdbfcblaaDoor
namespace Rows

/-- THE TIED CARD OF 'pelicanlaw01.ShaTells'. -/
def shaTellsCard : Claim7 := { stood := { row := shaTellsRow, standIns := [], harness := (true, "0ca8aa9b9b4145f13e68960da70291939e1cffac74ed7ad7c4fc5feaf25e59c1"), looks := false }, kinds := [], alts := [], laidByText := true, laidKinds := [.data, .data], laidTests := true, laidLooks := .later }
def ShaTellsCardSaid : Prop := Claim7.holds Tryd.pinned (.plain (OpenSpec.ofChange shaTellsSpec)) shaTellsCard

/-- THE TIED CARD OF 'pelicanlaw01.ShaParts'. -/
def shaPartsCard : Claim7 := { stood := { row := shaPartsRow, standIns := [], harness := (true, "0ca8aa9b9b4145f13e68960da70291939e1cffac74ed7ad7c4fc5feaf25e59c1"), looks := false }, kinds := [], alts := [], laidByText := true, laidKinds := [.data, .data], laidTests := true, laidLooks := .later }
def ShaPartsCardSaid : Prop := Claim7.holds Tryd.pinned (.plain (OpenSpec.ofChange shaPartsSpec)) shaPartsCard

/-- THE TIED CARD OF 'pelicanlaw01.ShaStays'. -/
def shaStaysCard : Claim7 := { stood := { row := shaStaysRow, standIns := [], harness := (true, "0ca8aa9b9b4145f13e68960da70291939e1cffac74ed7ad7c4fc5feaf25e59c1"), looks := false }, kinds := [], alts := [], laidByText := true, laidKinds := [.data, .data], laidTests := true, laidLooks := .later }
def ShaStaysCardSaid : Prop := Claim7.holds Tryd.pinned (.plain (OpenSpec.ofChange shaStaysSpec)) shaStaysCard

/-- THE TIED CARD OF 'pelicanlaw01.ShaJoins'. -/
def shaJoinsCard : Claim7 := { stood := { row := shaJoinsRow, standIns := [], harness := (true, "0ca8aa9b9b4145f13e68960da70291939e1cffac74ed7ad7c4fc5feaf25e59c1"), looks := false }, kinds := [], alts := [], laidByText := true, laidKinds := [.data, .data], laidTests := true, laidLooks := .later }
def ShaJoinsCardSaid : Prop := Claim7.holds Tryd.pinned (.plain (OpenSpec.ofChange shaJoinsSpec)) shaJoinsCard

/-- THE TIED CARD OF 'pelicanlaw01.ShaShort'. -/
def shaShortCard : Claim7 := { stood := { row := shaShortRow, standIns := [], harness := (true, "0ca8aa9b9b4145f13e68960da70291939e1cffac74ed7ad7c4fc5feaf25e59c1"), looks := false }, kinds := [], alts := [], laidByText := true, laidKinds := [.data, .data], laidTests := true, laidLooks := .later }
def ShaShortCardSaid : Prop := Claim7.holds Tryd.pinned (.plain (OpenSpec.ofChange shaShortSpec)) shaShortCard

/-- THE TIED CARD OF 'pelicanlaw01.ShaEnds'. -/
def shaEndsCard : Claim7 := { stood := { row := shaEndsRow, standIns := [], harness := (true, "0ca8aa9b9b4145f13e68960da70291939e1cffac74ed7ad7c4fc5feaf25e59c1"), looks := false }, kinds := [], alts := [], laidByText := true, laidKinds := [.data, .data], laidTests := true, laidLooks := .later }
def ShaEndsCardSaid : Prop := Claim7.holds Tryd.pinned (.plain (OpenSpec.ofChange shaEndsSpec)) shaEndsCard

/-- THE TIED CARD OF 'pelicanlaw02.MacTwo'. -/
def macTwoCard : Claim7 := { stood := { row := macTwoRow, standIns := [], harness := (true, "0ca8aa9b9b4145f13e68960da70291939e1cffac74ed7ad7c4fc5feaf25e59c1"), looks := false }, kinds := [], alts := [], laidByText := true, laidKinds := [.data, .data], laidTests := true, laidLooks := .later }
def MacTwoCardSaid : Prop := Claim7.holds Tryd.pinned (.plain (OpenSpec.ofChange macTwoSpec)) macTwoCard

/-- THE TIED CARD OF 'pelicanlaw02.MacBlock'. -/
def macBlockCard : Claim7 := { stood := { row := macBlockRow, standIns := [], harness := (true, "0ca8aa9b9b4145f13e68960da70291939e1cffac74ed7ad7c4fc5feaf25e59c1"), looks := false }, kinds := [], alts := [], laidByText := true, laidKinds := [.data, .data], laidTests := true, laidLooks := .later }
def MacBlockCardSaid : Prop := Claim7.holds Tryd.pinned (.plain (OpenSpec.ofChange macBlockSpec)) macBlockCard

/-- THE TIED CARD OF 'pelicanlaw02.MacSame'. -/
def macSameCard : Claim7 := { stood := { row := macSameRow, standIns := [], harness := (true, "0ca8aa9b9b4145f13e68960da70291939e1cffac74ed7ad7c4fc5feaf25e59c1"), looks := false }, kinds := [], alts := [], laidByText := true, laidKinds := [.data, .data], laidTests := true, laidLooks := .later }
def MacSameCardSaid : Prop := Claim7.holds Tryd.pinned (.plain (OpenSpec.ofChange macSameSpec)) macSameCard

/-- THE TIED CARD OF 'pelicanlaw02.MacClash'. -/
def macClashCard : Claim7 := { stood := { row := macClashRow, standIns := [], harness := (true, "0ca8aa9b9b4145f13e68960da70291939e1cffac74ed7ad7c4fc5feaf25e59c1"), looks := false }, kinds := [], alts := [], laidByText := true, laidKinds := [.data, .data], laidTests := true, laidLooks := .later }
def MacClashCardSaid : Prop := Claim7.holds Tryd.pinned (.plain (OpenSpec.ofChange macClashSpec)) macClashCard

/-- THE TIED CARD OF 'pelicanlaw02.MacTells'. -/
def macTellsCard : Claim7 := { stood := { row := macTellsRow, standIns := [], harness := (true, "0ca8aa9b9b4145f13e68960da70291939e1cffac74ed7ad7c4fc5feaf25e59c1"), looks := false }, kinds := [], alts := [], laidByText := true, laidKinds := [.data, .data], laidTests := true, laidLooks := .later }
def MacTellsCardSaid : Prop := Claim7.holds Tryd.pinned (.plain (OpenSpec.ofChange macTellsSpec)) macTellsCard

/-- THE TIED CARD OF 'pelicanlaw02.MacDerive'. -/
def macDeriveCard : Claim7 := { stood := { row := macDeriveRow, standIns := [], harness := (true, "0ca8aa9b9b4145f13e68960da70291939e1cffac74ed7ad7c4fc5feaf25e59c1"), looks := false }, kinds := [], alts := [], laidByText := true, laidKinds := [.data, .data], laidTests := true, laidLooks := .later }
def MacDeriveCardSaid : Prop := Claim7.holds Tryd.pinned (.plain (OpenSpec.ofChange macDeriveSpec)) macDeriveCard

/-- THE SECOND FORM's CARD OF 'pelicanlaw01.ShaTells'. -/
def shaTellsUptoCard : Claim7 := { stood := { row := shaTellsUptoRow, standIns := [], harness := (true, "0ca8aa9b9b4145f13e68960da70291939e1cffac74ed7ad7c4fc5feaf25e59c1"), looks := false }, kinds := [], alts := [], laidByText := true, laidKinds := [.data, .data], laidTests := true, laidLooks := .later }
def ShaTellsUptoCardSaid : Prop := Claim7.holds Tryd.pinned (.plain (OpenSpec.upto shaTellsSpec)) shaTellsUptoCard

/-- THE SECOND FORM's CARD OF 'pelicanlaw01.ShaParts'. -/
def shaPartsUptoCard : Claim7 := { stood := { row := shaPartsUptoRow, standIns := [], harness := (true, "0ca8aa9b9b4145f13e68960da70291939e1cffac74ed7ad7c4fc5feaf25e59c1"), looks := false }, kinds := [], alts := [], laidByText := true, laidKinds := [.data, .data], laidTests := true, laidLooks := .later }
def ShaPartsUptoCardSaid : Prop := Claim7.holds Tryd.pinned (.plain (OpenSpec.upto shaPartsSpec)) shaPartsUptoCard

/-- THE SECOND FORM's CARD OF 'pelicanlaw01.ShaStays'. -/
def shaStaysUptoCard : Claim7 := { stood := { row := shaStaysUptoRow, standIns := [], harness := (true, "0ca8aa9b9b4145f13e68960da70291939e1cffac74ed7ad7c4fc5feaf25e59c1"), looks := false }, kinds := [], alts := [], laidByText := true, laidKinds := [.data, .data], laidTests := true, laidLooks := .later }
def ShaStaysUptoCardSaid : Prop := Claim7.holds Tryd.pinned (.plain (OpenSpec.upto shaStaysSpec)) shaStaysUptoCard

/-- THE SECOND FORM's CARD OF 'pelicanlaw01.ShaJoins'. -/
def shaJoinsUptoCard : Claim7 := { stood := { row := shaJoinsUptoRow, standIns := [], harness := (true, "0ca8aa9b9b4145f13e68960da70291939e1cffac74ed7ad7c4fc5feaf25e59c1"), looks := false }, kinds := [], alts := [], laidByText := true, laidKinds := [.data, .data], laidTests := true, laidLooks := .later }
def ShaJoinsUptoCardSaid : Prop := Claim7.holds Tryd.pinned (.plain (OpenSpec.upto shaJoinsSpec)) shaJoinsUptoCard

/-- THE SECOND FORM's CARD OF 'pelicanlaw01.ShaShort'. -/
def shaShortUptoCard : Claim7 := { stood := { row := shaShortUptoRow, standIns := [], harness := (true, "0ca8aa9b9b4145f13e68960da70291939e1cffac74ed7ad7c4fc5feaf25e59c1"), looks := false }, kinds := [], alts := [], laidByText := true, laidKinds := [.data, .data], laidTests := true, laidLooks := .later }
def ShaShortUptoCardSaid : Prop := Claim7.holds Tryd.pinned (.plain (OpenSpec.upto shaShortSpec)) shaShortUptoCard

/-- THE SECOND FORM's CARD OF 'pelicanlaw01.ShaEnds'. -/
def shaEndsUptoCard : Claim7 := { stood := { row := shaEndsUptoRow, standIns := [], harness := (true, "0ca8aa9b9b4145f13e68960da70291939e1cffac74ed7ad7c4fc5feaf25e59c1"), looks := false }, kinds := [], alts := [], laidByText := true, laidKinds := [.data, .data], laidTests := true, laidLooks := .later }
def ShaEndsUptoCardSaid : Prop := Claim7.holds Tryd.pinned (.plain (OpenSpec.upto shaEndsSpec)) shaEndsUptoCard

/-- THE SECOND FORM's CARD OF 'pelicanlaw02.MacTwo'. -/
def macTwoUptoCard : Claim7 := { stood := { row := macTwoUptoRow, standIns := [], harness := (true, "0ca8aa9b9b4145f13e68960da70291939e1cffac74ed7ad7c4fc5feaf25e59c1"), looks := false }, kinds := [], alts := [], laidByText := true, laidKinds := [.data, .data], laidTests := true, laidLooks := .later }
def MacTwoUptoCardSaid : Prop := Claim7.holds Tryd.pinned (.plain (OpenSpec.upto macTwoSpec)) macTwoUptoCard

/-- THE SECOND FORM's CARD OF 'pelicanlaw02.MacBlock'. -/
def macBlockUptoCard : Claim7 := { stood := { row := macBlockUptoRow, standIns := [], harness := (true, "0ca8aa9b9b4145f13e68960da70291939e1cffac74ed7ad7c4fc5feaf25e59c1"), looks := false }, kinds := [], alts := [], laidByText := true, laidKinds := [.data, .data], laidTests := true, laidLooks := .later }
def MacBlockUptoCardSaid : Prop := Claim7.holds Tryd.pinned (.plain (OpenSpec.upto macBlockSpec)) macBlockUptoCard

/-- THE SECOND FORM's CARD OF 'pelicanlaw02.MacSame'. -/
def macSameUptoCard : Claim7 := { stood := { row := macSameUptoRow, standIns := [], harness := (true, "0ca8aa9b9b4145f13e68960da70291939e1cffac74ed7ad7c4fc5feaf25e59c1"), looks := false }, kinds := [], alts := [], laidByText := true, laidKinds := [.data, .data], laidTests := true, laidLooks := .later }
def MacSameUptoCardSaid : Prop := Claim7.holds Tryd.pinned (.plain (OpenSpec.upto macSameSpec)) macSameUptoCard

/-- THE SECOND FORM's CARD OF 'pelicanlaw02.MacClash'. -/
def macClashUptoCard : Claim7 := { stood := { row := macClashUptoRow, standIns := [], harness := (true, "0ca8aa9b9b4145f13e68960da70291939e1cffac74ed7ad7c4fc5feaf25e59c1"), looks := false }, kinds := [], alts := [], laidByText := true, laidKinds := [.data, .data], laidTests := true, laidLooks := .later }
def MacClashUptoCardSaid : Prop := Claim7.holds Tryd.pinned (.plain (OpenSpec.upto macClashSpec)) macClashUptoCard

/-- THE SECOND FORM's CARD OF 'pelicanlaw02.MacTells'. -/
def macTellsUptoCard : Claim7 := { stood := { row := macTellsUptoRow, standIns := [], harness := (true, "0ca8aa9b9b4145f13e68960da70291939e1cffac74ed7ad7c4fc5feaf25e59c1"), looks := false }, kinds := [], alts := [], laidByText := true, laidKinds := [.data, .data], laidTests := true, laidLooks := .later }
def MacTellsUptoCardSaid : Prop := Claim7.holds Tryd.pinned (.plain (OpenSpec.upto macTellsSpec)) macTellsUptoCard

/-- THE SECOND FORM's CARD OF 'pelicanlaw02.MacDerive'. -/
def macDeriveUptoCard : Claim7 := { stood := { row := macDeriveUptoRow, standIns := [], harness := (true, "0ca8aa9b9b4145f13e68960da70291939e1cffac74ed7ad7c4fc5feaf25e59c1"), looks := false }, kinds := [], alts := [], laidByText := true, laidKinds := [.data, .data], laidTests := true, laidLooks := .later }
def MacDeriveUptoCardSaid : Prop := Claim7.holds Tryd.pinned (.plain (OpenSpec.upto macDeriveSpec)) macDeriveUptoCard
end Rows
end Go.Proofs.YtbobbkgdbfcblaaDoor
