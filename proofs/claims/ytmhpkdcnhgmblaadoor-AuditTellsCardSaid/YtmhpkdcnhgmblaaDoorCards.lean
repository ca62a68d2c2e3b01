/-
  DERIVED. GIVEN WITH THE SEED: THE CARDS: each row of YtmhpkdcnhgmblaaDoorRows.lean that lists a variable, with what it lists TIED to the program's text (the seventh form; the later family's looks); each row that meets fmt, with fmt's text TOLD by the authors' own Lean function (tested against real Go, not proved from fmt's source: count such statements apart). THE CARD IS WHAT COUNTS. Prove the row's statement (the work); the ties are given (YtmhpkdcnhgmblaaDoorTie.lean); close each card by the builder's one call (the guide's Derived/Test/ToyasCard.lean, 'card_holds'). Laid BY PROGRAM, IN A SANDBOX (cutbox-door.mjs). By AI agents, Wed Nov 11 2026. No macro, syntax, notation, axiom, sorry.
-/
import Derived.Test.YtmhpkdcnhgmblaaDoorRows
import GoSem.ClaimSeven
namespace Go.Proofs.YtmhpkdcnhgmblaaDoor
namespace Rows

/-- THE TIED CARD OF 'pelicanlaw12.AuditTells'. -/
def auditTellsCard : Claim7 := { stood := { row := auditTellsRow, standIns := [], harness := (true, "c46a158536dd2015e7905ffd2accf0d5b6c491a2d4e2db1375382d3f73bae13f"), looks := false }, kinds := [], alts := [], laidByText := true, laidKinds := [.data, .data], laidTests := true, laidLooks := .later }
def AuditTellsCardSaid : Prop := Claim7.holds Tryd.pinned (.plain (OpenSpec.ofChange auditTellsSpec)) auditTellsCard

/-- THE TIED CARD OF 'pelicanlaw12.AuditAdds'. -/
def auditAddsCard : Claim7 := { stood := { row := auditAddsRow, standIns := [], harness := (true, "c46a158536dd2015e7905ffd2accf0d5b6c491a2d4e2db1375382d3f73bae13f"), looks := false }, kinds := [], alts := [], laidByText := true, laidKinds := [.data, .data], laidTests := true, laidLooks := .later }
def AuditAddsCardSaid : Prop := Claim7.holds Tryd.pinned (.plain (OpenSpec.ofChange auditAddsSpec)) auditAddsCard

/-- THE TIED CARD OF 'pelicanlaw12.AuditTorn'. -/
def auditTornCard : Claim7 := { stood := { row := auditTornRow, standIns := [], harness := (true, "c46a158536dd2015e7905ffd2accf0d5b6c491a2d4e2db1375382d3f73bae13f"), looks := false }, kinds := [], alts := [], laidByText := true, laidKinds := [.data, .data], laidTests := true, laidLooks := .later }
def AuditTornCardSaid : Prop := Claim7.holds Tryd.pinned (.plain (OpenSpec.ofChange auditTornSpec)) auditTornCard

/-- THE TIED CARD OF 'pelicanlaw12.AuditOpens'. -/
def auditOpensCard : Claim7 := { stood := { row := auditOpensRow, standIns := [], harness := (true, "c46a158536dd2015e7905ffd2accf0d5b6c491a2d4e2db1375382d3f73bae13f"), looks := false }, kinds := [], alts := [], laidByText := true, laidKinds := [.data, .data], laidTests := true, laidLooks := .later }
def AuditOpensCardSaid : Prop := Claim7.holds Tryd.pinned (.plain (OpenSpec.ofChange auditOpensSpec)) auditOpensCard

/-- THE TIED CARD OF 'pelicanlaw12.AuditFull'. -/
def auditFullCard : Claim7 := { stood := { row := auditFullRow, standIns := [], harness := (true, "c46a158536dd2015e7905ffd2accf0d5b6c491a2d4e2db1375382d3f73bae13f"), looks := false }, kinds := [], alts := [], laidByText := true, laidKinds := [.data, .data], laidTests := true, laidLooks := .later }
def AuditFullCardSaid : Prop := Claim7.holds Tryd.pinned (.plain (OpenSpec.ofChange auditFullSpec)) auditFullCard

/-- THE TIED CARD OF 'pelicanlaw12.AuditWait'. -/
def auditWaitCard : Claim7 := { stood := { row := auditWaitRow, standIns := [], harness := (true, "c46a158536dd2015e7905ffd2accf0d5b6c491a2d4e2db1375382d3f73bae13f"), looks := false }, kinds := [], alts := [], laidByText := true, laidKinds := [.data, .data], laidTests := true, laidLooks := .later }
def AuditWaitCardSaid : Prop := Claim7.holds Tryd.pinned (.plain (OpenSpec.ofChange auditWaitSpec)) auditWaitCard

/-- THE SECOND FORM's CARD OF 'pelicanlaw12.AuditTells'. -/
def auditTellsUptoCard : Claim7 := { stood := { row := auditTellsUptoRow, standIns := [], harness := (true, "c46a158536dd2015e7905ffd2accf0d5b6c491a2d4e2db1375382d3f73bae13f"), looks := false }, kinds := [], alts := [], laidByText := true, laidKinds := [.data, .data], laidTests := true, laidLooks := .later }
def AuditTellsUptoCardSaid : Prop := Claim7.holds Tryd.pinned (.plain (OpenSpec.upto auditTellsSpec)) auditTellsUptoCard

/-- THE SECOND FORM's CARD OF 'pelicanlaw12.AuditAdds'. -/
def auditAddsUptoCard : Claim7 := { stood := { row := auditAddsUptoRow, standIns := [], harness := (true, "c46a158536dd2015e7905ffd2accf0d5b6c491a2d4e2db1375382d3f73bae13f"), looks := false }, kinds := [], alts := [], laidByText := true, laidKinds := [.data, .data], laidTests := true, laidLooks := .later }
def AuditAddsUptoCardSaid : Prop := Claim7.holds Tryd.pinned (.plain (OpenSpec.upto auditAddsSpec)) auditAddsUptoCard

/-- THE SECOND FORM's CARD OF 'pelicanlaw12.AuditTorn'. -/
def auditTornUptoCard : Claim7 := { stood := { row := auditTornUptoRow, standIns := [], harness := (true, "c46a158536dd2015e7905ffd2accf0d5b6c491a2d4e2db1375382d3f73bae13f"), looks := false }, kinds := [], alts := [], laidByText := true, laidKinds := [.data, .data], laidTests := true, laidLooks := .later }
def AuditTornUptoCardSaid : Prop := Claim7.holds Tryd.pinned (.plain (OpenSpec.upto auditTornSpec)) auditTornUptoCard

/-- THE SECOND FORM's CARD OF 'pelicanlaw12.AuditOpens'. -/
def auditOpensUptoCard : Claim7 := { stood := { row := auditOpensUptoRow, standIns := [], harness := (true, "c46a158536dd2015e7905ffd2accf0d5b6c491a2d4e2db1375382d3f73bae13f"), looks := false }, kinds := [], alts := [], laidByText := true, laidKinds := [.data, .data], laidTests := true, laidLooks := .later }
def AuditOpensUptoCardSaid : Prop := Claim7.holds Tryd.pinned (.plain (OpenSpec.upto auditOpensSpec)) auditOpensUptoCard

/-- THE SECOND FORM's CARD OF 'pelicanlaw12.AuditFull'. -/
def auditFullUptoCard : Claim7 := { stood := { row := auditFullUptoRow, standIns := [], harness := (true, "c46a158536dd2015e7905ffd2accf0d5b6c491a2d4e2db1375382d3f73bae13f"), looks := false }, kinds := [], alts := [], laidByText := true, laidKinds := [.data, .data], laidTests := true, laidLooks := .later }
def AuditFullUptoCardSaid : Prop := Claim7.holds Tryd.pinned (.plain (OpenSpec.upto auditFullSpec)) auditFullUptoCard

/-- THE SECOND FORM's CARD OF 'pelicanlaw12.AuditWait'. -/
def auditWaitUptoCard : Claim7 := { stood := { row := auditWaitUptoRow, standIns := [], harness := (true, "c46a158536dd2015e7905ffd2accf0d5b6c491a2d4e2db1375382d3f73bae13f"), looks := false }, kinds := [], alts := [], laidByText := true, laidKinds := [.data, .data], laidTests := true, laidLooks := .later }
def AuditWaitUptoCardSaid : Prop := Claim7.holds Tryd.pinned (.plain (OpenSpec.upto auditWaitSpec)) auditWaitUptoCard
end Rows
end Go.Proofs.YtmhpkdcnhgmblaaDoor
