/-
  DERIVED. GIVEN WITH THE SEED: THE CARDS: each row of YtcimkkcajkmfoaaDoorRows.lean that lists a variable, with what it lists TIED to the program's text (the seventh form; the later family's looks); each row that meets fmt, with fmt's text TOLD by the authors' own Lean function (tested against real Go, not proved from fmt's source: count such statements apart). THE CARD IS WHAT COUNTS. Prove the row's statement (the work); the ties are given (YtcimkkcajkmfoaaDoorTie.lean); close each card by the builder's one call (the guide's Derived/Test/ToyasCard.lean, 'card_holds'). Laid BY PROGRAM, IN A SANDBOX (cutbox-door.mjs). By AI agents, Wed Nov 11 2026. No macro, syntax, notation, axiom, sorry.
-/
import Derived.Test.YtcimkkcajkmfoaaDoorRows
import GoSem.ClaimSeven
namespace Go.Proofs.YtcimkkcajkmfoaaDoor
namespace Rows

/-- THE TIED CARD OF 'pelicanlaw08.UserTells'. -/
def userTellsCard : Claim7 := { stood := { row := userTellsRow, standIns := [], harness := (true, "09030c450d8857bb16e0fa9e1ff0af9b00623b17a06564fbe73dbb9802cb25c5"), looks := false }, kinds := [], alts := [], laidByText := true, laidKinds := [.data, .data], laidTests := true, laidLooks := .later }
def UserTellsCardSaid : Prop := Claim7.holds Tryd.pinned (.plain (OpenSpec.ofChange userTellsSpec)) userTellsCard

/-- THE TIED CARD OF 'pelicanlaw08.UserFind'. -/
def userFindCard : Claim7 := { stood := { row := userFindRow, standIns := [], harness := (true, "09030c450d8857bb16e0fa9e1ff0af9b00623b17a06564fbe73dbb9802cb25c5"), looks := false }, kinds := [], alts := [], laidByText := true, laidKinds := [.data, .data], laidTests := true, laidLooks := .later }
def UserFindCardSaid : Prop := Claim7.holds Tryd.pinned (.plain (OpenSpec.ofChange userFindSpec)) userFindCard

/-- THE TIED CARD OF 'pelicanlaw08.UserFewer'. -/
def userFewerCard : Claim7 := { stood := { row := userFewerRow, standIns := [], harness := (true, "09030c450d8857bb16e0fa9e1ff0af9b00623b17a06564fbe73dbb9802cb25c5"), looks := false }, kinds := [], alts := [], laidByText := true, laidKinds := [.data, .data], laidTests := true, laidLooks := .later }
def UserFewerCardSaid : Prop := Claim7.holds Tryd.pinned (.plain (OpenSpec.ofChange userFewerSpec)) userFewerCard

/-- THE TIED CARD OF 'pelicanlaw08.UserSecret'. -/
def userSecretCard : Claim7 := { stood := { row := userSecretRow, standIns := [], harness := (true, "09030c450d8857bb16e0fa9e1ff0af9b00623b17a06564fbe73dbb9802cb25c5"), looks := false }, kinds := [], alts := [], laidByText := true, laidKinds := [.data, .data], laidTests := true, laidLooks := .later }
def UserSecretCardSaid : Prop := Claim7.holds Tryd.pinned (.plain (OpenSpec.ofChange userSecretSpec)) userSecretCard

/-- THE TIED CARD OF 'pelicanlaw08.UserRole'. -/
def userRoleCard : Claim7 := { stood := { row := userRoleRow, standIns := [], harness := (true, "09030c450d8857bb16e0fa9e1ff0af9b00623b17a06564fbe73dbb9802cb25c5"), looks := false }, kinds := [], alts := [], laidByText := true, laidKinds := [.data, .data], laidTests := true, laidLooks := .later }
def UserRoleCardSaid : Prop := Claim7.holds Tryd.pinned (.plain (OpenSpec.ofChange userRoleSpec)) userRoleCard

/-- THE TIED CARD OF 'pelicanlaw08.UserMore'. -/
def userMoreCard : Claim7 := { stood := { row := userMoreRow, standIns := [], harness := (true, "09030c450d8857bb16e0fa9e1ff0af9b00623b17a06564fbe73dbb9802cb25c5"), looks := false }, kinds := [], alts := [], laidByText := true, laidKinds := [.data, .data], laidTests := true, laidLooks := .later }
def UserMoreCardSaid : Prop := Claim7.holds Tryd.pinned (.plain (OpenSpec.ofChange userMoreSpec)) userMoreCard

/-- THE TIED CARD OF 'pelicanlaw11.ChainReads'. -/
def chainReadsCard : Claim7 := { stood := { row := chainReadsRow, standIns := [], harness := (true, "09030c450d8857bb16e0fa9e1ff0af9b00623b17a06564fbe73dbb9802cb25c5"), looks := false }, kinds := [], alts := [], laidByText := true, laidKinds := [.data, .data], laidTests := true, laidLooks := .later }
def ChainReadsCardSaid : Prop := Claim7.holds Tryd.pinned (.plain (OpenSpec.ofChange chainReadsSpec)) chainReadsCard

/-- THE TIED CARD OF 'pelicanlaw11.ChainSpoiled'. -/
def chainSpoiledCard : Claim7 := { stood := { row := chainSpoiledRow, standIns := [], harness := (true, "09030c450d8857bb16e0fa9e1ff0af9b00623b17a06564fbe73dbb9802cb25c5"), looks := false }, kinds := [], alts := [], laidByText := true, laidKinds := [.data, .data], laidTests := true, laidLooks := .later }
def ChainSpoiledCardSaid : Prop := Claim7.holds Tryd.pinned (.plain (OpenSpec.ofChange chainSpoiledSpec)) chainSpoiledCard

/-- THE TIED CARD OF 'pelicanlaw11.ChainMore'. -/
def chainMoreCard : Claim7 := { stood := { row := chainMoreRow, standIns := [], harness := (true, "09030c450d8857bb16e0fa9e1ff0af9b00623b17a06564fbe73dbb9802cb25c5"), looks := false }, kinds := [], alts := [], laidByText := true, laidKinds := [.data, .data], laidTests := true, laidLooks := .later }
def ChainMoreCardSaid : Prop := Claim7.holds Tryd.pinned (.plain (OpenSpec.ofChange chainMoreSpec)) chainMoreCard

/-- THE TIED CARD OF 'pelicanlaw11.ChainTorn'. -/
def chainTornCard : Claim7 := { stood := { row := chainTornRow, standIns := [], harness := (true, "09030c450d8857bb16e0fa9e1ff0af9b00623b17a06564fbe73dbb9802cb25c5"), looks := false }, kinds := [], alts := [], laidByText := true, laidKinds := [.data, .data], laidTests := true, laidLooks := .later }
def ChainTornCardSaid : Prop := Claim7.holds Tryd.pinned (.plain (OpenSpec.ofChange chainTornSpec)) chainTornCard

/-- THE TIED CARD OF 'pelicanlaw11.ChainTells'. -/
def chainTellsCard : Claim7 := { stood := { row := chainTellsRow, standIns := [], harness := (true, "09030c450d8857bb16e0fa9e1ff0af9b00623b17a06564fbe73dbb9802cb25c5"), looks := false }, kinds := [], alts := [], laidByText := true, laidKinds := [.data, .data], laidTests := true, laidLooks := .later }
def ChainTellsCardSaid : Prop := Claim7.holds Tryd.pinned (.plain (OpenSpec.ofChange chainTellsSpec)) chainTellsCard

/-- THE TIED CARD OF 'pelicanlaw11.ChainClash'. -/
def chainClashCard : Claim7 := { stood := { row := chainClashRow, standIns := [], harness := (true, "09030c450d8857bb16e0fa9e1ff0af9b00623b17a06564fbe73dbb9802cb25c5"), looks := false }, kinds := [], alts := [], laidByText := true, laidKinds := [.data, .data], laidTests := true, laidLooks := .later }
def ChainClashCardSaid : Prop := Claim7.holds Tryd.pinned (.plain (OpenSpec.ofChange chainClashSpec)) chainClashCard

/-- THE SECOND FORM's CARD OF 'pelicanlaw08.UserTells'. -/
def userTellsUptoCard : Claim7 := { stood := { row := userTellsUptoRow, standIns := [], harness := (true, "09030c450d8857bb16e0fa9e1ff0af9b00623b17a06564fbe73dbb9802cb25c5"), looks := false }, kinds := [], alts := [], laidByText := true, laidKinds := [.data, .data], laidTests := true, laidLooks := .later }
def UserTellsUptoCardSaid : Prop := Claim7.holds Tryd.pinned (.plain (OpenSpec.upto userTellsSpec)) userTellsUptoCard

/-- THE SECOND FORM's CARD OF 'pelicanlaw08.UserFind'. -/
def userFindUptoCard : Claim7 := { stood := { row := userFindUptoRow, standIns := [], harness := (true, "09030c450d8857bb16e0fa9e1ff0af9b00623b17a06564fbe73dbb9802cb25c5"), looks := false }, kinds := [], alts := [], laidByText := true, laidKinds := [.data, .data], laidTests := true, laidLooks := .later }
def UserFindUptoCardSaid : Prop := Claim7.holds Tryd.pinned (.plain (OpenSpec.upto userFindSpec)) userFindUptoCard

/-- THE SECOND FORM's CARD OF 'pelicanlaw08.UserFewer'. -/
def userFewerUptoCard : Claim7 := { stood := { row := userFewerUptoRow, standIns := [], harness := (true, "09030c450d8857bb16e0fa9e1ff0af9b00623b17a06564fbe73dbb9802cb25c5"), looks := false }, kinds := [], alts := [], laidByText := true, laidKinds := [.data, .data], laidTests := true, laidLooks := .later }
def UserFewerUptoCardSaid : Prop := Claim7.holds Tryd.pinned (.plain (OpenSpec.upto userFewerSpec)) userFewerUptoCard

/-- THE SECOND FORM's CARD OF 'pelicanlaw08.UserSecret'. -/
def userSecretUptoCard : Claim7 := { stood := { row := userSecretUptoRow, standIns := [], harness := (true, "09030c450d8857bb16e0fa9e1ff0af9b00623b17a06564fbe73dbb9802cb25c5"), looks := false }, kinds := [], alts := [], laidByText := true, laidKinds := [.data, .data], laidTests := true, laidLooks := .later }
def UserSecretUptoCardSaid : Prop := Claim7.holds Tryd.pinned (.plain (OpenSpec.upto userSecretSpec)) userSecretUptoCard

/-- THE SECOND FORM's CARD OF 'pelicanlaw08.UserRole'. -/
def userRoleUptoCard : Claim7 := { stood := { row := userRoleUptoRow, standIns := [], harness := (true, "09030c450d8857bb16e0fa9e1ff0af9b00623b17a06564fbe73dbb9802cb25c5"), looks := false }, kinds := [], alts := [], laidByText := true, laidKinds := [.data, .data], laidTests := true, laidLooks := .later }
def UserRoleUptoCardSaid : Prop := Claim7.holds Tryd.pinned (.plain (OpenSpec.upto userRoleSpec)) userRoleUptoCard

/-- THE SECOND FORM's CARD OF 'pelicanlaw08.UserMore'. -/
def userMoreUptoCard : Claim7 := { stood := { row := userMoreUptoRow, standIns := [], harness := (true, "09030c450d8857bb16e0fa9e1ff0af9b00623b17a06564fbe73dbb9802cb25c5"), looks := false }, kinds := [], alts := [], laidByText := true, laidKinds := [.data, .data], laidTests := true, laidLooks := .later }
def UserMoreUptoCardSaid : Prop := Claim7.holds Tryd.pinned (.plain (OpenSpec.upto userMoreSpec)) userMoreUptoCard

/-- THE SECOND FORM's CARD OF 'pelicanlaw11.ChainReads'. -/
def chainReadsUptoCard : Claim7 := { stood := { row := chainReadsUptoRow, standIns := [], harness := (true, "09030c450d8857bb16e0fa9e1ff0af9b00623b17a06564fbe73dbb9802cb25c5"), looks := false }, kinds := [], alts := [], laidByText := true, laidKinds := [.data, .data], laidTests := true, laidLooks := .later }
def ChainReadsUptoCardSaid : Prop := Claim7.holds Tryd.pinned (.plain (OpenSpec.upto chainReadsSpec)) chainReadsUptoCard

/-- THE SECOND FORM's CARD OF 'pelicanlaw11.ChainSpoiled'. -/
def chainSpoiledUptoCard : Claim7 := { stood := { row := chainSpoiledUptoRow, standIns := [], harness := (true, "09030c450d8857bb16e0fa9e1ff0af9b00623b17a06564fbe73dbb9802cb25c5"), looks := false }, kinds := [], alts := [], laidByText := true, laidKinds := [.data, .data], laidTests := true, laidLooks := .later }
def ChainSpoiledUptoCardSaid : Prop := Claim7.holds Tryd.pinned (.plain (OpenSpec.upto chainSpoiledSpec)) chainSpoiledUptoCard

/-- THE SECOND FORM's CARD OF 'pelicanlaw11.ChainMore'. -/
def chainMoreUptoCard : Claim7 := { stood := { row := chainMoreUptoRow, standIns := [], harness := (true, "09030c450d8857bb16e0fa9e1ff0af9b00623b17a06564fbe73dbb9802cb25c5"), looks := false }, kinds := [], alts := [], laidByText := true, laidKinds := [.data, .data], laidTests := true, laidLooks := .later }
def ChainMoreUptoCardSaid : Prop := Claim7.holds Tryd.pinned (.plain (OpenSpec.upto chainMoreSpec)) chainMoreUptoCard

/-- THE SECOND FORM's CARD OF 'pelicanlaw11.ChainTorn'. -/
def chainTornUptoCard : Claim7 := { stood := { row := chainTornUptoRow, standIns := [], harness := (true, "09030c450d8857bb16e0fa9e1ff0af9b00623b17a06564fbe73dbb9802cb25c5"), looks := false }, kinds := [], alts := [], laidByText := true, laidKinds := [.data, .data], laidTests := true, laidLooks := .later }
def ChainTornUptoCardSaid : Prop := Claim7.holds Tryd.pinned (.plain (OpenSpec.upto chainTornSpec)) chainTornUptoCard

/-- THE SECOND FORM's CARD OF 'pelicanlaw11.ChainTells'. -/
def chainTellsUptoCard : Claim7 := { stood := { row := chainTellsUptoRow, standIns := [], harness := (true, "09030c450d8857bb16e0fa9e1ff0af9b00623b17a06564fbe73dbb9802cb25c5"), looks := false }, kinds := [], alts := [], laidByText := true, laidKinds := [.data, .data], laidTests := true, laidLooks := .later }
def ChainTellsUptoCardSaid : Prop := Claim7.holds Tryd.pinned (.plain (OpenSpec.upto chainTellsSpec)) chainTellsUptoCard

/-- THE SECOND FORM's CARD OF 'pelicanlaw11.ChainClash'. -/
def chainClashUptoCard : Claim7 := { stood := { row := chainClashUptoRow, standIns := [], harness := (true, "09030c450d8857bb16e0fa9e1ff0af9b00623b17a06564fbe73dbb9802cb25c5"), looks := false }, kinds := [], alts := [], laidByText := true, laidKinds := [.data, .data], laidTests := true, laidLooks := .later }
def ChainClashUptoCardSaid : Prop := Claim7.holds Tryd.pinned (.plain (OpenSpec.upto chainClashSpec)) chainClashUptoCard
end Rows
end Go.Proofs.YtcimkkcajkmfoaaDoor
