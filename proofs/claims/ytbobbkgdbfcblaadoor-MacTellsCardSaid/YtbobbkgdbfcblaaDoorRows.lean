/-
  NARROWER THAN 'FOR EVERY INPUT', by the rows' own cells (each row's printed sentence says how): ShaTells: laid · ShaParts: laid · ShaStays: laid · ShaJoins: laid · ShaShort: laid · ShaEnds: laid · MacTwo: laid · MacBlock: laid · MacSame: laid · MacClash: laid · MacTells: laid · MacDerive: laid.
  DERIVED. THE GIVEN ROWS OF THIS SEAT. 12 by the template 'for every input the law returns true; each argument reads behind the call as it read before'; 0 by the template 'total and deterministic' (their statements: YtbobbkgdbfcblaaDoorTotals.lean).
  GIVEN WITH THE SEED: the statements are not yours to turn. If you find one false, say at which input.
  Laid BY PROGRAM, IN A SANDBOX (cutbox-rows.mjs): the forced cells as the released guide's own fill.sh prints them over the translation 5f8e81dca6963186… (all of the seat's roots in one cut). By AI agents, Wed Nov 11 2026. No macro, syntax, notation, axiom, sorry.
-/
import Derived.Test.YtbobbkgdbfcblaaDoorChecked
import GoSem.Claim
import GoSem.ClaimJoined
import GoSem.ClaimMapViews
import Derived.JoinedTies
import Derived.KernelRfl
namespace Go.Proofs.YtbobbkgdbfcblaaDoor
/- THE CELL 'sum', in the pinned program and in every row, IS THE sha256 OF THE DUMP (.gsa) THAT YtbobbkgdbfcblaaDoorProg.lean LOADS. Nothing in Lean hashes anything: it is a label: what it is worth is what the hold of that sum in a sandbox is worth. -/
noncomputable def Tryd.pinned : Pinned := { name := "ytbobbkgdbfcblaadoor", sum := "5f8e81dca69631862cea3e94aac64ccf2d997a604a2762d76dd8d5be792f82b1", checked := Tryd.checked }
namespace Rows
def none {H : Type} : Left H := { results := [], args := [] }

/- WHAT THE LISTED PACKAGE-LEVEL VARIABLES READ AS WHEN THE CALL BEGINS. Each datum BY PROGRAM (the guide's laid-datum.mjs) off the statement by which the dump's own 'gosem.cut.vars' lays the variable. In a bare row this is a premise. The card (YtbobbkgdbfcblaaDoorCards.lean) ties it to the program's text. -/
def laid_pelican_sha_first {H : Type} : DataW H := .agg [.lit (.int .u32 1779033703), .lit (.int .u32 3144134277), .lit (.int .u32 1013904242), .lit (.int .u32 2773480762), .lit (.int .u32 1359893119), .lit (.int .u32 2600822924), .lit (.int .u32 528734635), .lit (.int .u32 1541459225)]
def laid_pelican_sha_more {H : Type} : DataW H := .agg [.lit (.int .u32 1116352408), .lit (.int .u32 1899447441), .lit (.int .u32 3049323471), .lit (.int .u32 3921009573), .lit (.int .u32 961987163), .lit (.int .u32 1508970993), .lit (.int .u32 2453635748), .lit (.int .u32 2870763221), .lit (.int .u32 3624381080), .lit (.int .u32 310598401), .lit (.int .u32 607225278), .lit (.int .u32 1426881987), .lit (.int .u32 1925078388), .lit (.int .u32 2162078206), .lit (.int .u32 2614888103), .lit (.int .u32 3248222580), .lit (.int .u32 3835390401), .lit (.int .u32 4022224774), .lit (.int .u32 264347078), .lit (.int .u32 604807628), .lit (.int .u32 770255983), .lit (.int .u32 1249150122), .lit (.int .u32 1555081692), .lit (.int .u32 1996064986), .lit (.int .u32 2554220882), .lit (.int .u32 2821834349), .lit (.int .u32 2952996808), .lit (.int .u32 3210313671), .lit (.int .u32 3336571891), .lit (.int .u32 3584528711), .lit (.int .u32 113926993), .lit (.int .u32 338241895), .lit (.int .u32 666307205), .lit (.int .u32 773529912), .lit (.int .u32 1294757372), .lit (.int .u32 1396182291), .lit (.int .u32 1695183700), .lit (.int .u32 1986661051), .lit (.int .u32 2177026350), .lit (.int .u32 2456956037), .lit (.int .u32 2730485921), .lit (.int .u32 2820302411), .lit (.int .u32 3259730800), .lit (.int .u32 3345764771), .lit (.int .u32 3516065817), .lit (.int .u32 3600352804), .lit (.int .u32 4094571909), .lit (.int .u32 275423344), .lit (.int .u32 430227734), .lit (.int .u32 506948616), .lit (.int .u32 659060556), .lit (.int .u32 883997877), .lit (.int .u32 958139571), .lit (.int .u32 1322822218), .lit (.int .u32 1537002063), .lit (.int .u32 1747873779), .lit (.int .u32 1955562222), .lit (.int .u32 2024104815), .lit (.int .u32 2227730452), .lit (.int .u32 2361852424), .lit (.int .u32 2428436474), .lit (.int .u32 2756734187), .lit (.int .u32 3204031479), .lit (.int .u32 3329325298)]

/-- 'pelicanlaw01.ShaTells': WHATEVER THE INPUT: true; the input reads as it did. -/
def shaTellsSpec : ChangeSpec := { name := "shaTells", fn := fun _ => fun
  | [d1, d2] => { results := [.lit (.bool true)], args := [d1, d2] }
  | _ => none }
def shaTellsRow : OpenClaim := { program := "ytbobbkgdbfcblaadoor", sum := "5f8e81dca69631862cea3e94aac64ccf2d997a604a2762d76dd8d5be792f82b1", func := "pelican/pelicanlaw01.ShaTells", spec := "shaTells", named := ["pelican/sha.first", "pelican/sha.more"], apart := false, laid := [("pelican/sha.first", laid_pelican_sha_first), ("pelican/sha.more", laid_pelican_sha_more)] }
def ShaTellsSaid : Prop := shaTellsRow.holds Tryd.pinned (OpenSpec.ofChange shaTellsSpec)

/-- ITS FALSE NEIGHBOUR: 'it returns false'. Refute it at one input. -/
def shaTellsWrong : ChangeSpec := { name := "shaTells", fn := fun _ => fun
  | [d1, d2] => { results := [.lit (.bool false)], args := [d1, d2] }
  | _ => none }
def ShaTellsWrongFalsely : Prop := shaTellsRow.holds Tryd.pinned (OpenSpec.ofChange shaTellsWrong)

/-- 'pelicanlaw01.ShaParts': WHATEVER THE INPUT: true; the input reads as it did. -/
def shaPartsSpec : ChangeSpec := { name := "shaParts", fn := fun _ => fun
  | [d1, d2, d3] => { results := [.lit (.bool true)], args := [d1, d2, d3] }
  | _ => none }
def shaPartsRow : OpenClaim := { program := "ytbobbkgdbfcblaadoor", sum := "5f8e81dca69631862cea3e94aac64ccf2d997a604a2762d76dd8d5be792f82b1", func := "pelican/pelicanlaw01.ShaParts", spec := "shaParts", named := ["pelican/sha.first", "pelican/sha.more"], apart := false, laid := [("pelican/sha.first", laid_pelican_sha_first), ("pelican/sha.more", laid_pelican_sha_more)] }
def ShaPartsSaid : Prop := shaPartsRow.holds Tryd.pinned (OpenSpec.ofChange shaPartsSpec)

/-- ITS FALSE NEIGHBOUR: 'it returns false'. Refute it at one input. -/
def shaPartsWrong : ChangeSpec := { name := "shaParts", fn := fun _ => fun
  | [d1, d2, d3] => { results := [.lit (.bool false)], args := [d1, d2, d3] }
  | _ => none }
def ShaPartsWrongFalsely : Prop := shaPartsRow.holds Tryd.pinned (OpenSpec.ofChange shaPartsWrong)

/-- 'pelicanlaw01.ShaStays': WHATEVER THE INPUT: true; the input reads as it did. -/
def shaStaysSpec : ChangeSpec := { name := "shaStays", fn := fun _ => fun
  | [d1, d2] => { results := [.lit (.bool true)], args := [d1, d2] }
  | _ => none }
def shaStaysRow : OpenClaim := { program := "ytbobbkgdbfcblaadoor", sum := "5f8e81dca69631862cea3e94aac64ccf2d997a604a2762d76dd8d5be792f82b1", func := "pelican/pelicanlaw01.ShaStays", spec := "shaStays", named := ["pelican/sha.first", "pelican/sha.more"], apart := false, laid := [("pelican/sha.first", laid_pelican_sha_first), ("pelican/sha.more", laid_pelican_sha_more)] }
def ShaStaysSaid : Prop := shaStaysRow.holds Tryd.pinned (OpenSpec.ofChange shaStaysSpec)

/-- ITS FALSE NEIGHBOUR: 'it returns false'. Refute it at one input. -/
def shaStaysWrong : ChangeSpec := { name := "shaStays", fn := fun _ => fun
  | [d1, d2] => { results := [.lit (.bool false)], args := [d1, d2] }
  | _ => none }
def ShaStaysWrongFalsely : Prop := shaStaysRow.holds Tryd.pinned (OpenSpec.ofChange shaStaysWrong)

/-- 'pelicanlaw01.ShaJoins': WHATEVER THE INPUT: true; the input reads as it did. -/
def shaJoinsSpec : ChangeSpec := { name := "shaJoins", fn := fun _ => fun
  | [d1, d2, d3] => { results := [.lit (.bool true)], args := [d1, d2, d3] }
  | _ => none }
def shaJoinsRow : OpenClaim := { program := "ytbobbkgdbfcblaadoor", sum := "5f8e81dca69631862cea3e94aac64ccf2d997a604a2762d76dd8d5be792f82b1", func := "pelican/pelicanlaw01.ShaJoins", spec := "shaJoins", named := ["pelican/sha.first", "pelican/sha.more"], apart := false, laid := [("pelican/sha.first", laid_pelican_sha_first), ("pelican/sha.more", laid_pelican_sha_more)] }
def ShaJoinsSaid : Prop := shaJoinsRow.holds Tryd.pinned (OpenSpec.ofChange shaJoinsSpec)

/-- ITS FALSE NEIGHBOUR: 'it returns false'. Refute it at one input. -/
def shaJoinsWrong : ChangeSpec := { name := "shaJoins", fn := fun _ => fun
  | [d1, d2, d3] => { results := [.lit (.bool false)], args := [d1, d2, d3] }
  | _ => none }
def ShaJoinsWrongFalsely : Prop := shaJoinsRow.holds Tryd.pinned (OpenSpec.ofChange shaJoinsWrong)

/-- 'pelicanlaw01.ShaShort': WHATEVER THE INPUT: true; the input reads as it did. -/
def shaShortSpec : ChangeSpec := { name := "shaShort", fn := fun _ => fun
  | [d1, d2] => { results := [.lit (.bool true)], args := [d1, d2] }
  | _ => none }
def shaShortRow : OpenClaim := { program := "ytbobbkgdbfcblaadoor", sum := "5f8e81dca69631862cea3e94aac64ccf2d997a604a2762d76dd8d5be792f82b1", func := "pelican/pelicanlaw01.ShaShort", spec := "shaShort", named := ["pelican/sha.first", "pelican/sha.more"], apart := false, laid := [("pelican/sha.first", laid_pelican_sha_first), ("pelican/sha.more", laid_pelican_sha_more)] }
def ShaShortSaid : Prop := shaShortRow.holds Tryd.pinned (OpenSpec.ofChange shaShortSpec)

/-- ITS FALSE NEIGHBOUR: 'it returns false'. Refute it at one input. -/
def shaShortWrong : ChangeSpec := { name := "shaShort", fn := fun _ => fun
  | [d1, d2] => { results := [.lit (.bool false)], args := [d1, d2] }
  | _ => none }
def ShaShortWrongFalsely : Prop := shaShortRow.holds Tryd.pinned (OpenSpec.ofChange shaShortWrong)

/-- 'pelicanlaw01.ShaEnds': WHATEVER THE INPUT: true; the input reads as it did. -/
def shaEndsSpec : ChangeSpec := { name := "shaEnds", fn := fun _ => fun
  | [d1, d2] => { results := [.lit (.bool true)], args := [d1, d2] }
  | _ => none }
def shaEndsRow : OpenClaim := { program := "ytbobbkgdbfcblaadoor", sum := "5f8e81dca69631862cea3e94aac64ccf2d997a604a2762d76dd8d5be792f82b1", func := "pelican/pelicanlaw01.ShaEnds", spec := "shaEnds", named := ["pelican/sha.first", "pelican/sha.more"], apart := false, laid := [("pelican/sha.first", laid_pelican_sha_first), ("pelican/sha.more", laid_pelican_sha_more)] }
def ShaEndsSaid : Prop := shaEndsRow.holds Tryd.pinned (OpenSpec.ofChange shaEndsSpec)

/-- ITS FALSE NEIGHBOUR: 'it returns false'. Refute it at one input. -/
def shaEndsWrong : ChangeSpec := { name := "shaEnds", fn := fun _ => fun
  | [d1, d2] => { results := [.lit (.bool false)], args := [d1, d2] }
  | _ => none }
def ShaEndsWrongFalsely : Prop := shaEndsRow.holds Tryd.pinned (OpenSpec.ofChange shaEndsWrong)

/-- 'pelicanlaw02.MacTwo': WHATEVER THE INPUT: true; the input reads as it did. -/
def macTwoSpec : ChangeSpec := { name := "macTwo", fn := fun _ => fun
  | [d1, d2] => { results := [.lit (.bool true)], args := [d1, d2] }
  | _ => none }
def macTwoRow : OpenClaim := { program := "ytbobbkgdbfcblaadoor", sum := "5f8e81dca69631862cea3e94aac64ccf2d997a604a2762d76dd8d5be792f82b1", func := "pelican/pelicanlaw02.MacTwo", spec := "macTwo", unfollowed := true, recurses := true, named := ["pelican/sha.first", "pelican/sha.more"], apart := false, laid := [("pelican/sha.first", laid_pelican_sha_first), ("pelican/sha.more", laid_pelican_sha_more)] }
def MacTwoSaid : Prop := macTwoRow.holds Tryd.pinned (OpenSpec.ofChange macTwoSpec)

/-- ITS FALSE NEIGHBOUR: 'it returns false'. Refute it at one input. -/
def macTwoWrong : ChangeSpec := { name := "macTwo", fn := fun _ => fun
  | [d1, d2] => { results := [.lit (.bool false)], args := [d1, d2] }
  | _ => none }
def MacTwoWrongFalsely : Prop := macTwoRow.holds Tryd.pinned (OpenSpec.ofChange macTwoWrong)

/-- 'pelicanlaw02.MacBlock': WHATEVER THE INPUT: true; the input reads as it did. -/
def macBlockSpec : ChangeSpec := { name := "macBlock", fn := fun _ => fun
  | [d1, d2, d3] => { results := [.lit (.bool true)], args := [d1, d2, d3] }
  | _ => none }
def macBlockRow : OpenClaim := { program := "ytbobbkgdbfcblaadoor", sum := "5f8e81dca69631862cea3e94aac64ccf2d997a604a2762d76dd8d5be792f82b1", func := "pelican/pelicanlaw02.MacBlock", spec := "macBlock", unfollowed := true, recurses := true, named := ["pelican/sha.first", "pelican/sha.more"], apart := false, laid := [("pelican/sha.first", laid_pelican_sha_first), ("pelican/sha.more", laid_pelican_sha_more)] }
def MacBlockSaid : Prop := macBlockRow.holds Tryd.pinned (OpenSpec.ofChange macBlockSpec)

/-- ITS FALSE NEIGHBOUR: 'it returns false'. Refute it at one input. -/
def macBlockWrong : ChangeSpec := { name := "macBlock", fn := fun _ => fun
  | [d1, d2, d3] => { results := [.lit (.bool false)], args := [d1, d2, d3] }
  | _ => none }
def MacBlockWrongFalsely : Prop := macBlockRow.holds Tryd.pinned (OpenSpec.ofChange macBlockWrong)

/-- 'pelicanlaw02.MacSame': WHATEVER THE INPUT: true; the input reads as it did. -/
def macSameSpec : ChangeSpec := { name := "macSame", fn := fun _ => fun
  | [d1, d2, d3, d4] => { results := [.lit (.bool true)], args := [d1, d2, d3, d4] }
  | _ => none }
def macSameRow : OpenClaim := { program := "ytbobbkgdbfcblaadoor", sum := "5f8e81dca69631862cea3e94aac64ccf2d997a604a2762d76dd8d5be792f82b1", func := "pelican/pelicanlaw02.MacSame", spec := "macSame", unfollowed := true, recurses := true, named := ["pelican/sha.first", "pelican/sha.more"], apart := false, laid := [("pelican/sha.first", laid_pelican_sha_first), ("pelican/sha.more", laid_pelican_sha_more)] }
def MacSameSaid : Prop := macSameRow.holds Tryd.pinned (OpenSpec.ofChange macSameSpec)

/-- ITS FALSE NEIGHBOUR: 'it returns false'. Refute it at one input. -/
def macSameWrong : ChangeSpec := { name := "macSame", fn := fun _ => fun
  | [d1, d2, d3, d4] => { results := [.lit (.bool false)], args := [d1, d2, d3, d4] }
  | _ => none }
def MacSameWrongFalsely : Prop := macSameRow.holds Tryd.pinned (OpenSpec.ofChange macSameWrong)

/-- 'pelicanlaw02.MacClash': WHATEVER THE INPUT: true; the input reads as it did. -/
def macClashSpec : ChangeSpec := { name := "macClash", fn := fun _ => fun
  | [d1, d2, d3] => { results := [.lit (.bool true)], args := [d1, d2, d3] }
  | _ => none }
def macClashRow : OpenClaim := { program := "ytbobbkgdbfcblaadoor", sum := "5f8e81dca69631862cea3e94aac64ccf2d997a604a2762d76dd8d5be792f82b1", func := "pelican/pelicanlaw02.MacClash", spec := "macClash", unfollowed := true, recurses := true, named := ["pelican/sha.first", "pelican/sha.more"], apart := false, laid := [("pelican/sha.first", laid_pelican_sha_first), ("pelican/sha.more", laid_pelican_sha_more)] }
def MacClashSaid : Prop := macClashRow.holds Tryd.pinned (OpenSpec.ofChange macClashSpec)

/-- ITS FALSE NEIGHBOUR: 'it returns false'. Refute it at one input. -/
def macClashWrong : ChangeSpec := { name := "macClash", fn := fun _ => fun
  | [d1, d2, d3] => { results := [.lit (.bool false)], args := [d1, d2, d3] }
  | _ => none }
def MacClashWrongFalsely : Prop := macClashRow.holds Tryd.pinned (OpenSpec.ofChange macClashWrong)

/-- 'pelicanlaw02.MacTells': WHATEVER THE INPUT: true; the input reads as it did. -/
def macTellsSpec : ChangeSpec := { name := "macTells", fn := fun _ => fun
  | [d1, d2, d3, d4] => { results := [.lit (.bool true)], args := [d1, d2, d3, d4] }
  | _ => none }
def macTellsRow : OpenClaim := { program := "ytbobbkgdbfcblaadoor", sum := "5f8e81dca69631862cea3e94aac64ccf2d997a604a2762d76dd8d5be792f82b1", func := "pelican/pelicanlaw02.MacTells", spec := "macTells", unfollowed := true, recurses := true, named := ["pelican/sha.first", "pelican/sha.more"], apart := false, laid := [("pelican/sha.first", laid_pelican_sha_first), ("pelican/sha.more", laid_pelican_sha_more)] }
def MacTellsSaid : Prop := macTellsRow.holds Tryd.pinned (OpenSpec.ofChange macTellsSpec)

/-- ITS FALSE NEIGHBOUR: 'it returns false'. Refute it at one input. -/
def macTellsWrong : ChangeSpec := { name := "macTells", fn := fun _ => fun
  | [d1, d2, d3, d4] => { results := [.lit (.bool false)], args := [d1, d2, d3, d4] }
  | _ => none }
def MacTellsWrongFalsely : Prop := macTellsRow.holds Tryd.pinned (OpenSpec.ofChange macTellsWrong)

/-- 'pelicanlaw02.MacDerive': WHATEVER THE INPUT: true; the input reads as it did. -/
def macDeriveSpec : ChangeSpec := { name := "macDerive", fn := fun _ => fun
  | [d1, d2, d3] => { results := [.lit (.bool true)], args := [d1, d2, d3] }
  | _ => none }
def macDeriveRow : OpenClaim := { program := "ytbobbkgdbfcblaadoor", sum := "5f8e81dca69631862cea3e94aac64ccf2d997a604a2762d76dd8d5be792f82b1", func := "pelican/pelicanlaw02.MacDerive", spec := "macDerive", unfollowed := true, recurses := true, named := ["pelican/sha.first", "pelican/sha.more"], apart := false, laid := [("pelican/sha.first", laid_pelican_sha_first), ("pelican/sha.more", laid_pelican_sha_more)] }
def MacDeriveSaid : Prop := macDeriveRow.holds Tryd.pinned (OpenSpec.ofChange macDeriveSpec)

/-- ITS FALSE NEIGHBOUR: 'it returns false'. Refute it at one input. -/
def macDeriveWrong : ChangeSpec := { name := "macDerive", fn := fun _ => fun
  | [d1, d2, d3] => { results := [.lit (.bool false)], args := [d1, d2, d3] }
  | _ => none }
def MacDeriveWrongFalsely : Prop := macDeriveRow.holds Tryd.pinned (OpenSpec.ofChange macDeriveWrong)

/- THE SECOND FORM. 'bulk': how many values and letters a reading holds, each counted each time it is reached (what is shared counts as often as it is met; a slice's spare places count too). A statement '..UptoSaid' is the law's where the arguments, and the package variables that the reading takes, are together of bulk at most 1048576: NARROWER than '..Said'. Prove '..Said' where nothing that the law and all that it calls make is longer than what came in: it says more and counts as full. Else prove '..UptoSaid'. A law counts once. -/
mutual
def uptoBulk {H : Type} : DataW H → Nat
  | .lit (.string bytes) => bytes.length + 1
  | .lit _ => 1
  | .nil => 1
  | .ptr d => uptoBulk d + 1
  | .slice elems spare => uptoBulkAll elems + uptoBulkAll spare + 1
  | .agg parts => uptoBulkAll parts + 1
  | .iface _ d => uptoBulk d + 1
  | .map entries => uptoBulkEntries entries + 1
  | .held _ => 1
def uptoBulkAll {H : Type} : List (DataW H) → Nat
  | [] => 0
  | d :: r => uptoBulk d + uptoBulkAll r
def uptoBulkEntries {H : Type} : List (Lit × DataW H) → Nat
  | [] => 0
  | x :: r => uptoBulkEntry x + uptoBulkEntries r
def uptoBulkEntry {H : Type} : Lit × DataW H → Nat
  | (.string bytes, d) => bytes.length + uptoBulk d + 1
  | (_, d) => uptoBulk d + 1
 end
def uptoSmall : (H : Type) → List (DataW H) → Bool := fun _ ds => decide (uptoBulkAll ds ≤ 1048576)
def OpenSpec.upto (s : _root_.Go.ChangeSpec) : _root_.Go.OpenSpec := { _root_.Go.OpenSpec.ofChange s with cond := some uptoSmall }

/-- 'pelicanlaw01.ShaTells', WHERE WHAT IT READS IS OF BULK AT MOST 1048576: true; the input reads as it did. -/
def shaTellsUptoRow : OpenClaim := { program := "ytbobbkgdbfcblaadoor", sum := "5f8e81dca69631862cea3e94aac64ccf2d997a604a2762d76dd8d5be792f82b1", func := "pelican/pelicanlaw01.ShaTells", spec := "shaTells", named := ["pelican/sha.first", "pelican/sha.more"], apart := false, laid := [("pelican/sha.first", laid_pelican_sha_first), ("pelican/sha.more", laid_pelican_sha_more)], narrowed := true }
def ShaTellsUptoSaid : Prop := shaTellsUptoRow.holds Tryd.pinned (OpenSpec.upto shaTellsSpec)

/-- 'pelicanlaw01.ShaParts', WHERE WHAT IT READS IS OF BULK AT MOST 1048576: true; the input reads as it did. -/
def shaPartsUptoRow : OpenClaim := { program := "ytbobbkgdbfcblaadoor", sum := "5f8e81dca69631862cea3e94aac64ccf2d997a604a2762d76dd8d5be792f82b1", func := "pelican/pelicanlaw01.ShaParts", spec := "shaParts", named := ["pelican/sha.first", "pelican/sha.more"], apart := false, laid := [("pelican/sha.first", laid_pelican_sha_first), ("pelican/sha.more", laid_pelican_sha_more)], narrowed := true }
def ShaPartsUptoSaid : Prop := shaPartsUptoRow.holds Tryd.pinned (OpenSpec.upto shaPartsSpec)

/-- 'pelicanlaw01.ShaStays', WHERE WHAT IT READS IS OF BULK AT MOST 1048576: true; the input reads as it did. -/
def shaStaysUptoRow : OpenClaim := { program := "ytbobbkgdbfcblaadoor", sum := "5f8e81dca69631862cea3e94aac64ccf2d997a604a2762d76dd8d5be792f82b1", func := "pelican/pelicanlaw01.ShaStays", spec := "shaStays", named := ["pelican/sha.first", "pelican/sha.more"], apart := false, laid := [("pelican/sha.first", laid_pelican_sha_first), ("pelican/sha.more", laid_pelican_sha_more)], narrowed := true }
def ShaStaysUptoSaid : Prop := shaStaysUptoRow.holds Tryd.pinned (OpenSpec.upto shaStaysSpec)

/-- 'pelicanlaw01.ShaJoins', WHERE WHAT IT READS IS OF BULK AT MOST 1048576: true; the input reads as it did. -/
def shaJoinsUptoRow : OpenClaim := { program := "ytbobbkgdbfcblaadoor", sum := "5f8e81dca69631862cea3e94aac64ccf2d997a604a2762d76dd8d5be792f82b1", func := "pelican/pelicanlaw01.ShaJoins", spec := "shaJoins", named := ["pelican/sha.first", "pelican/sha.more"], apart := false, laid := [("pelican/sha.first", laid_pelican_sha_first), ("pelican/sha.more", laid_pelican_sha_more)], narrowed := true }
def ShaJoinsUptoSaid : Prop := shaJoinsUptoRow.holds Tryd.pinned (OpenSpec.upto shaJoinsSpec)

/-- 'pelicanlaw01.ShaShort', WHERE WHAT IT READS IS OF BULK AT MOST 1048576: true; the input reads as it did. -/
def shaShortUptoRow : OpenClaim := { program := "ytbobbkgdbfcblaadoor", sum := "5f8e81dca69631862cea3e94aac64ccf2d997a604a2762d76dd8d5be792f82b1", func := "pelican/pelicanlaw01.ShaShort", spec := "shaShort", named := ["pelican/sha.first", "pelican/sha.more"], apart := false, laid := [("pelican/sha.first", laid_pelican_sha_first), ("pelican/sha.more", laid_pelican_sha_more)], narrowed := true }
def ShaShortUptoSaid : Prop := shaShortUptoRow.holds Tryd.pinned (OpenSpec.upto shaShortSpec)

/-- 'pelicanlaw01.ShaEnds', WHERE WHAT IT READS IS OF BULK AT MOST 1048576: true; the input reads as it did. -/
def shaEndsUptoRow : OpenClaim := { program := "ytbobbkgdbfcblaadoor", sum := "5f8e81dca69631862cea3e94aac64ccf2d997a604a2762d76dd8d5be792f82b1", func := "pelican/pelicanlaw01.ShaEnds", spec := "shaEnds", named := ["pelican/sha.first", "pelican/sha.more"], apart := false, laid := [("pelican/sha.first", laid_pelican_sha_first), ("pelican/sha.more", laid_pelican_sha_more)], narrowed := true }
def ShaEndsUptoSaid : Prop := shaEndsUptoRow.holds Tryd.pinned (OpenSpec.upto shaEndsSpec)

/-- 'pelicanlaw02.MacTwo', WHERE WHAT IT READS IS OF BULK AT MOST 1048576: true; the input reads as it did. -/
def macTwoUptoRow : OpenClaim := { program := "ytbobbkgdbfcblaadoor", sum := "5f8e81dca69631862cea3e94aac64ccf2d997a604a2762d76dd8d5be792f82b1", func := "pelican/pelicanlaw02.MacTwo", spec := "macTwo", unfollowed := true, recurses := true, named := ["pelican/sha.first", "pelican/sha.more"], apart := false, laid := [("pelican/sha.first", laid_pelican_sha_first), ("pelican/sha.more", laid_pelican_sha_more)], narrowed := true }
def MacTwoUptoSaid : Prop := macTwoUptoRow.holds Tryd.pinned (OpenSpec.upto macTwoSpec)

/-- 'pelicanlaw02.MacBlock', WHERE WHAT IT READS IS OF BULK AT MOST 1048576: true; the input reads as it did. -/
def macBlockUptoRow : OpenClaim := { program := "ytbobbkgdbfcblaadoor", sum := "5f8e81dca69631862cea3e94aac64ccf2d997a604a2762d76dd8d5be792f82b1", func := "pelican/pelicanlaw02.MacBlock", spec := "macBlock", unfollowed := true, recurses := true, named := ["pelican/sha.first", "pelican/sha.more"], apart := false, laid := [("pelican/sha.first", laid_pelican_sha_first), ("pelican/sha.more", laid_pelican_sha_more)], narrowed := true }
def MacBlockUptoSaid : Prop := macBlockUptoRow.holds Tryd.pinned (OpenSpec.upto macBlockSpec)

/-- 'pelicanlaw02.MacSame', WHERE WHAT IT READS IS OF BULK AT MOST 1048576: true; the input reads as it did. -/
def macSameUptoRow : OpenClaim := { program := "ytbobbkgdbfcblaadoor", sum := "5f8e81dca69631862cea3e94aac64ccf2d997a604a2762d76dd8d5be792f82b1", func := "pelican/pelicanlaw02.MacSame", spec := "macSame", unfollowed := true, recurses := true, named := ["pelican/sha.first", "pelican/sha.more"], apart := false, laid := [("pelican/sha.first", laid_pelican_sha_first), ("pelican/sha.more", laid_pelican_sha_more)], narrowed := true }
def MacSameUptoSaid : Prop := macSameUptoRow.holds Tryd.pinned (OpenSpec.upto macSameSpec)

/-- 'pelicanlaw02.MacClash', WHERE WHAT IT READS IS OF BULK AT MOST 1048576: true; the input reads as it did. -/
def macClashUptoRow : OpenClaim := { program := "ytbobbkgdbfcblaadoor", sum := "5f8e81dca69631862cea3e94aac64ccf2d997a604a2762d76dd8d5be792f82b1", func := "pelican/pelicanlaw02.MacClash", spec := "macClash", unfollowed := true, recurses := true, named := ["pelican/sha.first", "pelican/sha.more"], apart := false, laid := [("pelican/sha.first", laid_pelican_sha_first), ("pelican/sha.more", laid_pelican_sha_more)], narrowed := true }
def MacClashUptoSaid : Prop := macClashUptoRow.holds Tryd.pinned (OpenSpec.upto macClashSpec)

/-- 'pelicanlaw02.MacTells', WHERE WHAT IT READS IS OF BULK AT MOST 1048576: true; the input reads as it did. -/
def macTellsUptoRow : OpenClaim := { program := "ytbobbkgdbfcblaadoor", sum := "5f8e81dca69631862cea3e94aac64ccf2d997a604a2762d76dd8d5be792f82b1", func := "pelican/pelicanlaw02.MacTells", spec := "macTells", unfollowed := true, recurses := true, named := ["pelican/sha.first", "pelican/sha.more"], apart := false, laid := [("pelican/sha.first", laid_pelican_sha_first), ("pelican/sha.more", laid_pelican_sha_more)], narrowed := true }
def MacTellsUptoSaid : Prop := macTellsUptoRow.holds Tryd.pinned (OpenSpec.upto macTellsSpec)

/-- 'pelicanlaw02.MacDerive', WHERE WHAT IT READS IS OF BULK AT MOST 1048576: true; the input reads as it did. -/
def macDeriveUptoRow : OpenClaim := { program := "ytbobbkgdbfcblaadoor", sum := "5f8e81dca69631862cea3e94aac64ccf2d997a604a2762d76dd8d5be792f82b1", func := "pelican/pelicanlaw02.MacDerive", spec := "macDerive", unfollowed := true, recurses := true, named := ["pelican/sha.first", "pelican/sha.more"], apart := false, laid := [("pelican/sha.first", laid_pelican_sha_first), ("pelican/sha.more", laid_pelican_sha_more)], narrowed := true }
def MacDeriveUptoSaid : Prop := macDeriveUptoRow.holds Tryd.pinned (OpenSpec.upto macDeriveSpec)

end Rows
end Go.Proofs.YtbobbkgdbfcblaaDoor
