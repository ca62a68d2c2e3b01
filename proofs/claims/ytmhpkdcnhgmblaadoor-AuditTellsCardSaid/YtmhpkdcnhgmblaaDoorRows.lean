/-
  NARROWER THAN 'FOR EVERY INPUT', by the rows' own cells (each row's printed sentence says how): AuditTells: laid · AuditAdds: laid · AuditTorn: laid · AuditOpens: laid · AuditFull: laid · AuditWait: laid.
  DERIVED. THE GIVEN ROWS OF THIS SEAT. 6 by the template 'for every input the law returns true; each argument reads behind the call as it read before'; 0 by the template 'total and deterministic' (their statements: YtmhpkdcnhgmblaaDoorTotals.lean).
  GIVEN WITH THE SEED: the statements are not yours to turn. If you find one false, say at which input.
  Laid BY PROGRAM, IN A SANDBOX (cutbox-rows.mjs): the forced cells as the released guide's own fill.sh prints them over the translation 8c76b9031e4022dd… (all of the seat's roots in one cut). By AI agents, Wed Nov 11 2026. No macro, syntax, notation, axiom, sorry.
-/
import Derived.Test.YtmhpkdcnhgmblaaDoorChecked
import GoSem.Claim
import GoSem.ClaimJoined
import GoSem.ClaimMapViews
import Derived.JoinedTies
import Derived.KernelRfl
namespace Go.Proofs.YtmhpkdcnhgmblaaDoor
/- THE CELL 'sum', in the pinned program and in every row, IS THE sha256 OF THE DUMP (.gsa) THAT YtmhpkdcnhgmblaaDoorProg.lean LOADS. Nothing in Lean hashes anything: it is a label: what it is worth is what the hold of that sum in a sandbox is worth. -/
noncomputable def Tryd.pinned : Pinned := { name := "ytmhpkdcnhgmblaadoor", sum := "8c76b9031e4022ddf73ee3bdc07b1dd7df38f01ab4f283ecb7f5b440d9f34c66", checked := Tryd.checked }
namespace Rows
def none {H : Type} : Left H := { results := [], args := [] }

/- WHAT THE LISTED PACKAGE-LEVEL VARIABLES READ AS WHEN THE CALL BEGINS. Each datum BY PROGRAM (the guide's laid-datum.mjs) off the statement by which the dump's own 'gosem.cut.vars' lays the variable. In a bare row this is a premise. The card (YtmhpkdcnhgmblaaDoorCards.lean) ties it to the program's text. -/
def laid_pelican_sha_first {H : Type} : DataW H := .agg [.lit (.int .u32 1779033703), .lit (.int .u32 3144134277), .lit (.int .u32 1013904242), .lit (.int .u32 2773480762), .lit (.int .u32 1359893119), .lit (.int .u32 2600822924), .lit (.int .u32 528734635), .lit (.int .u32 1541459225)]
def laid_pelican_sha_more {H : Type} : DataW H := .agg [.lit (.int .u32 1116352408), .lit (.int .u32 1899447441), .lit (.int .u32 3049323471), .lit (.int .u32 3921009573), .lit (.int .u32 961987163), .lit (.int .u32 1508970993), .lit (.int .u32 2453635748), .lit (.int .u32 2870763221), .lit (.int .u32 3624381080), .lit (.int .u32 310598401), .lit (.int .u32 607225278), .lit (.int .u32 1426881987), .lit (.int .u32 1925078388), .lit (.int .u32 2162078206), .lit (.int .u32 2614888103), .lit (.int .u32 3248222580), .lit (.int .u32 3835390401), .lit (.int .u32 4022224774), .lit (.int .u32 264347078), .lit (.int .u32 604807628), .lit (.int .u32 770255983), .lit (.int .u32 1249150122), .lit (.int .u32 1555081692), .lit (.int .u32 1996064986), .lit (.int .u32 2554220882), .lit (.int .u32 2821834349), .lit (.int .u32 2952996808), .lit (.int .u32 3210313671), .lit (.int .u32 3336571891), .lit (.int .u32 3584528711), .lit (.int .u32 113926993), .lit (.int .u32 338241895), .lit (.int .u32 666307205), .lit (.int .u32 773529912), .lit (.int .u32 1294757372), .lit (.int .u32 1396182291), .lit (.int .u32 1695183700), .lit (.int .u32 1986661051), .lit (.int .u32 2177026350), .lit (.int .u32 2456956037), .lit (.int .u32 2730485921), .lit (.int .u32 2820302411), .lit (.int .u32 3259730800), .lit (.int .u32 3345764771), .lit (.int .u32 3516065817), .lit (.int .u32 3600352804), .lit (.int .u32 4094571909), .lit (.int .u32 275423344), .lit (.int .u32 430227734), .lit (.int .u32 506948616), .lit (.int .u32 659060556), .lit (.int .u32 883997877), .lit (.int .u32 958139571), .lit (.int .u32 1322822218), .lit (.int .u32 1537002063), .lit (.int .u32 1747873779), .lit (.int .u32 1955562222), .lit (.int .u32 2024104815), .lit (.int .u32 2227730452), .lit (.int .u32 2361852424), .lit (.int .u32 2428436474), .lit (.int .u32 2756734187), .lit (.int .u32 3204031479), .lit (.int .u32 3329325298)]

/-- 'pelicanlaw12.AuditTells': WHATEVER THE INPUT: true; the input reads as it did. -/
def auditTellsSpec : ChangeSpec := { name := "auditTells", fn := fun _ => fun
  | [d1, d2, d3, d4, d5, d6, d7] => { results := [.lit (.bool true)], args := [d1, d2, d3, d4, d5, d6, d7] }
  | _ => none }
def auditTellsRow : OpenClaim := { program := "ytmhpkdcnhgmblaadoor", sum := "8c76b9031e4022ddf73ee3bdc07b1dd7df38f01ab4f283ecb7f5b440d9f34c66", func := "pelican/pelicanlaw12.AuditTells", spec := "auditTells", unfollowed := true, recurses := true, named := ["pelican/sha.first", "pelican/sha.more"], apart := false, laid := [("pelican/sha.first", laid_pelican_sha_first), ("pelican/sha.more", laid_pelican_sha_more)] }
def AuditTellsSaid : Prop := auditTellsRow.holds Tryd.pinned (OpenSpec.ofChange auditTellsSpec)

/-- ITS FALSE NEIGHBOUR: 'it returns false'. Refute it at one input. -/
def auditTellsWrong : ChangeSpec := { name := "auditTells", fn := fun _ => fun
  | [d1, d2, d3, d4, d5, d6, d7] => { results := [.lit (.bool false)], args := [d1, d2, d3, d4, d5, d6, d7] }
  | _ => none }
def AuditTellsWrongFalsely : Prop := auditTellsRow.holds Tryd.pinned (OpenSpec.ofChange auditTellsWrong)

/-- 'pelicanlaw12.AuditAdds': WHATEVER THE INPUT: true; the input reads as it did. -/
def auditAddsSpec : ChangeSpec := { name := "auditAdds", fn := fun _ => fun
  | [d1, d2, d3] => { results := [.lit (.bool true)], args := [d1, d2, d3] }
  | _ => none }
def auditAddsRow : OpenClaim := { program := "ytmhpkdcnhgmblaadoor", sum := "8c76b9031e4022ddf73ee3bdc07b1dd7df38f01ab4f283ecb7f5b440d9f34c66", func := "pelican/pelicanlaw12.AuditAdds", spec := "auditAdds", unfollowed := true, recurses := true, named := ["pelican/sha.first", "pelican/sha.more"], apart := false, laid := [("pelican/sha.first", laid_pelican_sha_first), ("pelican/sha.more", laid_pelican_sha_more)] }
def AuditAddsSaid : Prop := auditAddsRow.holds Tryd.pinned (OpenSpec.ofChange auditAddsSpec)

/-- ITS FALSE NEIGHBOUR: 'it returns false'. Refute it at one input. -/
def auditAddsWrong : ChangeSpec := { name := "auditAdds", fn := fun _ => fun
  | [d1, d2, d3] => { results := [.lit (.bool false)], args := [d1, d2, d3] }
  | _ => none }
def AuditAddsWrongFalsely : Prop := auditAddsRow.holds Tryd.pinned (OpenSpec.ofChange auditAddsWrong)

/-- 'pelicanlaw12.AuditTorn': WHATEVER THE INPUT: true; the input reads as it did. -/
def auditTornSpec : ChangeSpec := { name := "auditTorn", fn := fun _ => fun
  | [d1, d2, d3] => { results := [.lit (.bool true)], args := [d1, d2, d3] }
  | _ => none }
def auditTornRow : OpenClaim := { program := "ytmhpkdcnhgmblaadoor", sum := "8c76b9031e4022ddf73ee3bdc07b1dd7df38f01ab4f283ecb7f5b440d9f34c66", func := "pelican/pelicanlaw12.AuditTorn", spec := "auditTorn", unfollowed := true, recurses := true, named := ["pelican/sha.first", "pelican/sha.more"], apart := false, laid := [("pelican/sha.first", laid_pelican_sha_first), ("pelican/sha.more", laid_pelican_sha_more)] }
def AuditTornSaid : Prop := auditTornRow.holds Tryd.pinned (OpenSpec.ofChange auditTornSpec)

/-- ITS FALSE NEIGHBOUR: 'it returns false'. Refute it at one input. -/
def auditTornWrong : ChangeSpec := { name := "auditTorn", fn := fun _ => fun
  | [d1, d2, d3] => { results := [.lit (.bool false)], args := [d1, d2, d3] }
  | _ => none }
def AuditTornWrongFalsely : Prop := auditTornRow.holds Tryd.pinned (OpenSpec.ofChange auditTornWrong)

/-- 'pelicanlaw12.AuditOpens': WHATEVER THE INPUT: true; the input reads as it did. -/
def auditOpensSpec : ChangeSpec := { name := "auditOpens", fn := fun _ => fun
  | [d] => { results := [.lit (.bool true)], args := [d] }
  | _ => none }
def auditOpensRow : OpenClaim := { program := "ytmhpkdcnhgmblaadoor", sum := "8c76b9031e4022ddf73ee3bdc07b1dd7df38f01ab4f283ecb7f5b440d9f34c66", func := "pelican/pelicanlaw12.AuditOpens", spec := "auditOpens", unfollowed := true, recurses := true, named := ["pelican/sha.first", "pelican/sha.more"], apart := false, laid := [("pelican/sha.first", laid_pelican_sha_first), ("pelican/sha.more", laid_pelican_sha_more)] }
def AuditOpensSaid : Prop := auditOpensRow.holds Tryd.pinned (OpenSpec.ofChange auditOpensSpec)

/-- ITS FALSE NEIGHBOUR: 'it returns false'. Refute it at one input. -/
def auditOpensWrong : ChangeSpec := { name := "auditOpens", fn := fun _ => fun
  | [d] => { results := [.lit (.bool false)], args := [d] }
  | _ => none }
def AuditOpensWrongFalsely : Prop := auditOpensRow.holds Tryd.pinned (OpenSpec.ofChange auditOpensWrong)

/-- 'pelicanlaw12.AuditFull': WHATEVER THE INPUT: true; the input reads as it did. -/
def auditFullSpec : ChangeSpec := { name := "auditFull", fn := fun _ => fun
  | [d1, d2] => { results := [.lit (.bool true)], args := [d1, d2] }
  | _ => none }
def auditFullRow : OpenClaim := { program := "ytmhpkdcnhgmblaadoor", sum := "8c76b9031e4022ddf73ee3bdc07b1dd7df38f01ab4f283ecb7f5b440d9f34c66", func := "pelican/pelicanlaw12.AuditFull", spec := "auditFull", unfollowed := true, recurses := true, named := ["pelican/sha.first", "pelican/sha.more"], apart := false, laid := [("pelican/sha.first", laid_pelican_sha_first), ("pelican/sha.more", laid_pelican_sha_more)] }
def AuditFullSaid : Prop := auditFullRow.holds Tryd.pinned (OpenSpec.ofChange auditFullSpec)

/-- ITS FALSE NEIGHBOUR: 'it returns false'. Refute it at one input. -/
def auditFullWrong : ChangeSpec := { name := "auditFull", fn := fun _ => fun
  | [d1, d2] => { results := [.lit (.bool false)], args := [d1, d2] }
  | _ => none }
def AuditFullWrongFalsely : Prop := auditFullRow.holds Tryd.pinned (OpenSpec.ofChange auditFullWrong)

/-- 'pelicanlaw12.AuditWait': WHATEVER THE INPUT: true; the input reads as it did. -/
def auditWaitSpec : ChangeSpec := { name := "auditWait", fn := fun _ => fun
  | [d1, d2] => { results := [.lit (.bool true)], args := [d1, d2] }
  | _ => none }
def auditWaitRow : OpenClaim := { program := "ytmhpkdcnhgmblaadoor", sum := "8c76b9031e4022ddf73ee3bdc07b1dd7df38f01ab4f283ecb7f5b440d9f34c66", func := "pelican/pelicanlaw12.AuditWait", spec := "auditWait", unfollowed := true, recurses := true, named := ["pelican/sha.first", "pelican/sha.more"], apart := false, laid := [("pelican/sha.first", laid_pelican_sha_first), ("pelican/sha.more", laid_pelican_sha_more)] }
def AuditWaitSaid : Prop := auditWaitRow.holds Tryd.pinned (OpenSpec.ofChange auditWaitSpec)

/-- ITS FALSE NEIGHBOUR: 'it returns false'. Refute it at one input. -/
def auditWaitWrong : ChangeSpec := { name := "auditWait", fn := fun _ => fun
  | [d1, d2] => { results := [.lit (.bool false)], args := [d1, d2] }
  | _ => none }
def AuditWaitWrongFalsely : Prop := auditWaitRow.holds Tryd.pinned (OpenSpec.ofChange auditWaitWrong)

/- THE SECOND FORM. 'bulk': how many values and letters a reading holds, each counted each time it is reached (what is shared counts as often as it is met; a slice's spare places count too). A statement '..UptoSaid' is the law's where the arguments, and the package variables that the reading takes, are together of bulk at most 1048576: NARROWER than '..Said'. Prove '..Said' where nothing that the law and all that it calls make is longer than what came in: it says more and counts as full. Else prove '..UptoSaid'. A law counts once. -/
mutual
def uptoBulk {H : Type} : DataW H → Nat
  | .lit (.string bytes) => bytes.length + 1
  | .lit _ => 1
  | .nil => 1
  | .ptr d => uptoBulk d + 1
  | .slice elems spare => uptoBulkAll elems + uptoBulkAll spare + 1
  | .agg parts => uptoBulkAll parts + 1
  | .iface _ d => uptoBulk d + 1
  | .map entries => uptoBulkEntries entries + 1
  | .held _ => 1
def uptoBulkAll {H : Type} : List (DataW H) → Nat
  | [] => 0
  | d :: r => uptoBulk d + uptoBulkAll r
def uptoBulkEntries {H : Type} : List (Lit × DataW H) → Nat
  | [] => 0
  | x :: r => uptoBulkEntry x + uptoBulkEntries r
def uptoBulkEntry {H : Type} : Lit × DataW H → Nat
  | (.string bytes, d) => bytes.length + uptoBulk d + 1
  | (_, d) => uptoBulk d + 1
 end
def uptoSmall : (H : Type) → List (DataW H) → Bool := fun _ ds => decide (uptoBulkAll ds ≤ 1048576)
def OpenSpec.upto (s : _root_.Go.ChangeSpec) : _root_.Go.OpenSpec := { _root_.Go.OpenSpec.ofChange s with cond := some uptoSmall }

/-- 'pelicanlaw12.AuditTells', WHERE WHAT IT READS IS OF BULK AT MOST 1048576: true; the input reads as it did. -/
def auditTellsUptoRow : OpenClaim := { program := "ytmhpkdcnhgmblaadoor", sum := "8c76b9031e4022ddf73ee3bdc07b1dd7df38f01ab4f283ecb7f5b440d9f34c66", func := "pelican/pelicanlaw12.AuditTells", spec := "auditTells", unfollowed := true, recurses := true, named := ["pelican/sha.first", "pelican/sha.more"], apart := false, laid := [("pelican/sha.first", laid_pelican_sha_first), ("pelican/sha.more", laid_pelican_sha_more)], narrowed := true }
def AuditTellsUptoSaid : Prop := auditTellsUptoRow.holds Tryd.pinned (OpenSpec.upto auditTellsSpec)

/-- 'pelicanlaw12.AuditAdds', WHERE WHAT IT READS IS OF BULK AT MOST 1048576: true; the input reads as it did. -/
def auditAddsUptoRow : OpenClaim := { program := "ytmhpkdcnhgmblaadoor", sum := "8c76b9031e4022ddf73ee3bdc07b1dd7df38f01ab4f283ecb7f5b440d9f34c66", func := "pelican/pelicanlaw12.AuditAdds", spec := "auditAdds", unfollowed := true, recurses := true, named := ["pelican/sha.first", "pelican/sha.more"], apart := false, laid := [("pelican/sha.first", laid_pelican_sha_first), ("pelican/sha.more", laid_pelican_sha_more)], narrowed := true }
def AuditAddsUptoSaid : Prop := auditAddsUptoRow.holds Tryd.pinned (OpenSpec.upto auditAddsSpec)

/-- 'pelicanlaw12.AuditTorn', WHERE WHAT IT READS IS OF BULK AT MOST 1048576: true; the input reads as it did. -/
def auditTornUptoRow : OpenClaim := { program := "ytmhpkdcnhgmblaadoor", sum := "8c76b9031e4022ddf73ee3bdc07b1dd7df38f01ab4f283ecb7f5b440d9f34c66", func := "pelican/pelicanlaw12.AuditTorn", spec := "auditTorn", unfollowed := true, recurses := true, named := ["pelican/sha.first", "pelican/sha.more"], apart := false, laid := [("pelican/sha.first", laid_pelican_sha_first), ("pelican/sha.more", laid_pelican_sha_more)], narrowed := true }
def AuditTornUptoSaid : Prop := auditTornUptoRow.holds Tryd.pinned (OpenSpec.upto auditTornSpec)

/-- 'pelicanlaw12.AuditOpens', WHERE WHAT IT READS IS OF BULK AT MOST 1048576: true; the input reads as it did. -/
def auditOpensUptoRow : OpenClaim := { program := "ytmhpkdcnhgmblaadoor", sum := "8c76b9031e4022ddf73ee3bdc07b1dd7df38f01ab4f283ecb7f5b440d9f34c66", func := "pelican/pelicanlaw12.AuditOpens", spec := "auditOpens", unfollowed := true, recurses := true, named := ["pelican/sha.first", "pelican/sha.more"], apart := false, laid := [("pelican/sha.first", laid_pelican_sha_first), ("pelican/sha.more", laid_pelican_sha_more)], narrowed := true }
def AuditOpensUptoSaid : Prop := auditOpensUptoRow.holds Tryd.pinned (OpenSpec.upto auditOpensSpec)

/-- 'pelicanlaw12.AuditFull', WHERE WHAT IT READS IS OF BULK AT MOST 1048576: true; the input reads as it did. -/
def auditFullUptoRow : OpenClaim := { program := "ytmhpkdcnhgmblaadoor", sum := "8c76b9031e4022ddf73ee3bdc07b1dd7df38f01ab4f283ecb7f5b440d9f34c66", func := "pelican/pelicanlaw12.AuditFull", spec := "auditFull", unfollowed := true, recurses := true, named := ["pelican/sha.first", "pelican/sha.more"], apart := false, laid := [("pelican/sha.first", laid_pelican_sha_first), ("pelican/sha.more", laid_pelican_sha_more)], narrowed := true }
def AuditFullUptoSaid : Prop := auditFullUptoRow.holds Tryd.pinned (OpenSpec.upto auditFullSpec)

/-- 'pelicanlaw12.AuditWait', WHERE WHAT IT READS IS OF BULK AT MOST 1048576: true; the input reads as it did. -/
def auditWaitUptoRow : OpenClaim := { program := "ytmhpkdcnhgmblaadoor", sum := "8c76b9031e4022ddf73ee3bdc07b1dd7df38f01ab4f283ecb7f5b440d9f34c66", func := "pelican/pelicanlaw12.AuditWait", spec := "auditWait", unfollowed := true, recurses := true, named := ["pelican/sha.first", "pelican/sha.more"], apart := false, laid := [("pelican/sha.first", laid_pelican_sha_first), ("pelican/sha.more", laid_pelican_sha_more)], narrowed := true }
def AuditWaitUptoSaid : Prop := auditWaitUptoRow.holds Tryd.pinned (OpenSpec.upto auditWaitSpec)

end Rows
end Go.Proofs.YtmhpkdcnhgmblaaDoor
