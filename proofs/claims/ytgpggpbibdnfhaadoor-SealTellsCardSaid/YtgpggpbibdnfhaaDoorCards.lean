/-
  DERIVED. GIVEN WITH THE SEED: THE CARDS: each row of YtgpggpbibdnfhaaDoorRows.lean that lists a variable, with what it lists TIED to the program's text (the seventh form; the later family's looks); each row that meets fmt, with fmt's text TOLD by the authors' own Lean function (tested against real Go, not proved from fmt's source: count such statements apart). THE CARD IS WHAT COUNTS. Prove the row's statement (the work); the ties are given (YtgpggpbibdnfhaaDoorTie.lean); close each card by the builder's one call (the guide's Derived/Test/ToyasCard.lean, 'card_holds'). Laid BY PROGRAM, IN A SANDBOX (cutbox-door.mjs). By AI agents, Wed Nov 11 2026. No macro, syntax, notation, axiom, sorry.
-/
import Derived.Test.YtgpggpbibdnfhaaDoorRows
import GoSem.ClaimSeven
namespace Go.Proofs.YtgpggpbibdnfhaaDoor
namespace Rows

/-- THE TIED CARD OF 'pelicanlaw19.SealKinds'. -/
def sealKindsCard : Claim7 := { stood := { row := sealKindsRow, standIns := [], harness := (true, "d30179282e177f245a8da44e5d38d0541582b1ef23a79bddf5c1a321cba5fa14"), looks := false }, kinds := [], alts := [], laidByText := true, laidKinds := [.data, .data], laidTests := true, laidLooks := .later }
def SealKindsCardSaid : Prop := Claim7.holds Tryd.pinned (.plain (OpenSpec.ofChange sealKindsSpec)) sealKindsCard

/-- THE TIED CARD OF 'pelicanlaw19.SealTurned'. -/
def sealTurnedCard : Claim7 := { stood := { row := sealTurnedRow, standIns := [], harness := (true, "d30179282e177f245a8da44e5d38d0541582b1ef23a79bddf5c1a321cba5fa14"), looks := false }, kinds := [], alts := [], laidByText := true, laidKinds := [.data, .data], laidTests := true, laidLooks := .later }
def SealTurnedCardSaid : Prop := Claim7.holds Tryd.pinned (.plain (OpenSpec.ofChange sealTurnedSpec)) sealTurnedCard

/-- THE TIED CARD OF 'pelicanlaw19.SealTells'. -/
def sealTellsCard : Claim7 := { stood := { row := sealTellsRow, standIns := [], harness := (true, "d30179282e177f245a8da44e5d38d0541582b1ef23a79bddf5c1a321cba5fa14"), looks := false }, kinds := [], alts := [], laidByText := true, laidKinds := [.data, .data], laidTests := true, laidLooks := .later }
def SealTellsCardSaid : Prop := Claim7.holds Tryd.pinned (.plain (OpenSpec.ofChange sealTellsSpec)) sealTellsCard

/-- THE TIED CARD OF 'pelicanlaw19.SealBody'. -/
def sealBodyCard : Claim7 := { stood := { row := sealBodyRow, standIns := [], harness := (true, "d30179282e177f245a8da44e5d38d0541582b1ef23a79bddf5c1a321cba5fa14"), looks := false }, kinds := [], alts := [], laidByText := true, laidKinds := [.data, .data], laidTests := true, laidLooks := .later }
def SealBodyCardSaid : Prop := Claim7.holds Tryd.pinned (.plain (OpenSpec.ofChange sealBodySpec)) sealBodyCard

/-- THE TIED CARD OF 'pelicanlaw19.SealBack'. -/
def sealBackCard : Claim7 := { stood := { row := sealBackRow, standIns := [], harness := (true, "d30179282e177f245a8da44e5d38d0541582b1ef23a79bddf5c1a321cba5fa14"), looks := false }, kinds := [], alts := [], laidByText := true, laidKinds := [.data, .data], laidTests := true, laidLooks := .later }
def SealBackCardSaid : Prop := Claim7.holds Tryd.pinned (.plain (OpenSpec.ofChange sealBackSpec)) sealBackCard

/-- THE SECOND FORM's CARD OF 'pelicanlaw19.SealKinds'. -/
def sealKindsUptoCard : Claim7 := { stood := { row := sealKindsUptoRow, standIns := [], harness := (true, "d30179282e177f245a8da44e5d38d0541582b1ef23a79bddf5c1a321cba5fa14"), looks := false }, kinds := [], alts := [], laidByText := true, laidKinds := [.data, .data], laidTests := true, laidLooks := .later }
def SealKindsUptoCardSaid : Prop := Claim7.holds Tryd.pinned (.plain (OpenSpec.upto sealKindsSpec)) sealKindsUptoCard

/-- THE SECOND FORM's CARD OF 'pelicanlaw19.SealTurned'. -/
def sealTurnedUptoCard : Claim7 := { stood := { row := sealTurnedUptoRow, standIns := [], harness := (true, "d30179282e177f245a8da44e5d38d0541582b1ef23a79bddf5c1a321cba5fa14"), looks := false }, kinds := [], alts := [], laidByText := true, laidKinds := [.data, .data], laidTests := true, laidLooks := .later }
def SealTurnedUptoCardSaid : Prop := Claim7.holds Tryd.pinned (.plain (OpenSpec.upto sealTurnedSpec)) sealTurnedUptoCard

/-- THE SECOND FORM's CARD OF 'pelicanlaw19.SealTells'. -/
def sealTellsUptoCard : Claim7 := { stood := { row := sealTellsUptoRow, standIns := [], harness := (true, "d30179282e177f245a8da44e5d38d0541582b1ef23a79bddf5c1a321cba5fa14"), looks := false }, kinds := [], alts := [], laidByText := true, laidKinds := [.data, .data], laidTests := true, laidLooks := .later }
def SealTellsUptoCardSaid : Prop := Claim7.holds Tryd.pinned (.plain (OpenSpec.upto sealTellsSpec)) sealTellsUptoCard

/-- THE SECOND FORM's CARD OF 'pelicanlaw19.SealBody'. -/
def sealBodyUptoCard : Claim7 := { stood := { row := sealBodyUptoRow, standIns := [], harness := (true, "d30179282e177f245a8da44e5d38d0541582b1ef23a79bddf5c1a321cba5fa14"), looks := false }, kinds := [], alts := [], laidByText := true, laidKinds := [.data, .data], laidTests := true, laidLooks := .later }
def SealBodyUptoCardSaid : Prop := Claim7.holds Tryd.pinned (.plain (OpenSpec.upto sealBodySpec)) sealBodyUptoCard

/-- THE SECOND FORM's CARD OF 'pelicanlaw19.SealBack'. -/
def sealBackUptoCard : Claim7 := { stood := { row := sealBackUptoRow, standIns := [], harness := (true, "d30179282e177f245a8da44e5d38d0541582b1ef23a79bddf5c1a321cba5fa14"), looks := false }, kinds := [], alts := [], laidByText := true, laidKinds := [.data, .data], laidTests := true, laidLooks := .later }
def SealBackUptoCardSaid : Prop := Claim7.holds Tryd.pinned (.plain (OpenSpec.upto sealBackSpec)) sealBackUptoCard
end Rows
end Go.Proofs.YtgpggpbibdnfhaaDoor
