/-
  NARROWER THAN 'FOR EVERY INPUT', by the rows' own cells (each row's printed sentence says how): UserTells: laid · UserFind: laid · UserFewer: laid · UserSecret: laid · UserRole: laid · UserMore: laid · ChainReads: laid · ChainSpoiled: laid · ChainMore: laid · ChainTorn: laid · ChainTells: laid · ChainClash: laid.
  DERIVED. THE GIVEN ROWS OF THIS SEAT. 12 by the template 'for every input the law returns true; each argument reads behind the call as it read before'; 0 by the template 'total and deterministic' (their statements: YtcimkkcajkmfoaaDoorTotals.lean).
  GIVEN WITH THE SEED: the statements are not yours to turn. If you find one false, say at which input.
  Laid BY PROGRAM, IN A SANDBOX (cutbox-rows.mjs): the forced cells as the released guide's own fill.sh prints them over the translation 7fb5230a75310830… (all of the seat's roots in one cut). By AI agents, Wed Nov 11 2026. No macro, syntax, notation, axiom, sorry.
-/
import Derived.Test.YtcimkkcajkmfoaaDoorChecked
import GoSem.Claim
import GoSem.ClaimJoined
import GoSem.ClaimMapViews
import Derived.JoinedTies
import Derived.KernelRfl
namespace Go.Proofs.YtcimkkcajkmfoaaDoor
/- THE CELL 'sum', in the pinned program and in every row, IS THE sha256 OF THE DUMP (.gsa) THAT YtcimkkcajkmfoaaDoorProg.lean LOADS. Nothing in Lean hashes anything: it is a label: what it is worth is what the hold of that sum in a sandbox is worth. -/
noncomputable def Tryd.pinned : Pinned := { name := "ytcimkkcajkmfoaadoor", sum := "7fb5230a7531083090b7d857660b56b6df28be9966199235c95804a9f07bca4d", checked := Tryd.checked }
namespace Rows
def none {H : Type} : Left H := { results := [], args := [] }

/- WHAT THE LISTED PACKAGE-LEVEL VARIABLES READ AS WHEN THE CALL BEGINS. Each datum BY PROGRAM (the guide's laid-datum.mjs) off the statement by which the dump's own 'gosem.cut.vars' lays the variable. In a bare row this is a premise. The card (YtcimkkcajkmfoaaDoorCards.lean) ties it to the program's text. -/
def laid_pelican_sha_first {H : Type} : DataW H := .agg [.lit (.int .u32 1779033703), .lit (.int .u32 3144134277), .lit (.int .u32 1013904242), .lit (.int .u32 2773480762), .lit (.int .u32 1359893119), .lit (.int .u32 2600822924), .lit (.int .u32 528734635), .lit (.int .u32 1541459225)]
def laid_pelican_sha_more {H : Type} : DataW H := .agg [.lit (.int .u32 1116352408), .lit (.int .u32 1899447441), .lit (.int .u32 3049323471), .lit (.int .u32 3921009573), .lit (.int .u32 961987163), .lit (.int .u32 1508970993), .lit (.int .u32 2453635748), .lit (.int .u32 2870763221), .lit (.int .u32 3624381080), .lit (.int .u32 310598401), .lit (.int .u32 607225278), .lit (.int .u32 1426881987), .lit (.int .u32 1925078388), .lit (.int .u32 2162078206), .lit (.int .u32 2614888103), .lit (.int .u32 3248222580), .lit (.int .u32 3835390401), .lit (.int .u32 4022224774), .lit (.int .u32 264347078), .lit (.int .u32 604807628), .lit (.int .u32 770255983), .lit (.int .u32 1249150122), .lit (.int .u32 1555081692), .lit (.int .u32 1996064986), .lit (.int .u32 2554220882), .lit (.int .u32 2821834349), .lit (.int .u32 2952996808), .lit (.int .u32 3210313671), .lit (.int .u32 3336571891), .lit (.int .u32 3584528711), .lit (.int .u32 113926993), .lit (.int .u32 338241895), .lit (.int .u32 666307205), .lit (.int .u32 773529912), .lit (.int .u32 1294757372), .lit (.int .u32 1396182291), .lit (.int .u32 1695183700), .lit (.int .u32 1986661051), .lit (.int .u32 2177026350), .lit (.int .u32 2456956037), .lit (.int .u32 2730485921), .lit (.int .u32 2820302411), .lit (.int .u32 3259730800), .lit (.int .u32 3345764771), .lit (.int .u32 3516065817), .lit (.int .u32 3600352804), .lit (.int .u32 4094571909), .lit (.int .u32 275423344), .lit (.int .u32 430227734), .lit (.int .u32 506948616), .lit (.int .u32 659060556), .lit (.int .u32 883997877), .lit (.int .u32 958139571), .lit (.int .u32 1322822218), .lit (.int .u32 1537002063), .lit (.int .u32 1747873779), .lit (.int .u32 1955562222), .lit (.int .u32 2024104815), .lit (.int .u32 2227730452), .lit (.int .u32 2361852424), .lit (.int .u32 2428436474), .lit (.int .u32 2756734187), .lit (.int .u32 3204031479), .lit (.int .u32 3329325298)]

/-- 'pelicanlaw08.UserTells': WHATEVER THE INPUT: true; the input reads as it did. -/
def userTellsSpec : ChangeSpec := { name := "userTells", fn := fun _ => fun
  | [d1, d2, d3, d4, d5, d6, d7] => { results := [.lit (.bool true)], args := [d1, d2, d3, d4, d5, d6, d7] }
  | _ => none }
def userTellsRow : OpenClaim := { program := "ytcimkkcajkmfoaadoor", sum := "7fb5230a7531083090b7d857660b56b6df28be9966199235c95804a9f07bca4d", func := "pelican/pelicanlaw08.UserTells", spec := "userTells", unfollowed := true, recurses := true, named := ["pelican/sha.first", "pelican/sha.more"], apart := false, laid := [("pelican/sha.first", laid_pelican_sha_first), ("pelican/sha.more", laid_pelican_sha_more)] }
def UserTellsSaid : Prop := userTellsRow.holds Tryd.pinned (OpenSpec.ofChange userTellsSpec)

/-- ITS FALSE NEIGHBOUR: 'it returns false'. Refute it at one input. -/
def userTellsWrong : ChangeSpec := { name := "userTells", fn := fun _ => fun
  | [d1, d2, d3, d4, d5, d6, d7] => { results := [.lit (.bool false)], args := [d1, d2, d3, d4, d5, d6, d7] }
  | _ => none }
def UserTellsWrongFalsely : Prop := userTellsRow.holds Tryd.pinned (OpenSpec.ofChange userTellsWrong)

/-- 'pelicanlaw08.UserFind': WHATEVER THE INPUT: true; the input reads as it did. -/
def userFindSpec : ChangeSpec := { name := "userFind", fn := fun _ => fun
  | [d1, d2, d3] => { results := [.lit (.bool true)], args := [d1, d2, d3] }
  | _ => none }
def userFindRow : OpenClaim := { program := "ytcimkkcajkmfoaadoor", sum := "7fb5230a7531083090b7d857660b56b6df28be9966199235c95804a9f07bca4d", func := "pelican/pelicanlaw08.UserFind", spec := "userFind", unfollowed := true, recurses := true, named := ["pelican/sha.first", "pelican/sha.more"], apart := false, laid := [("pelican/sha.first", laid_pelican_sha_first), ("pelican/sha.more", laid_pelican_sha_more)] }
def UserFindSaid : Prop := userFindRow.holds Tryd.pinned (OpenSpec.ofChange userFindSpec)

/-- ITS FALSE NEIGHBOUR: 'it returns false'. Refute it at one input. -/
def userFindWrong : ChangeSpec := { name := "userFind", fn := fun _ => fun
  | [d1, d2, d3] => { results := [.lit (.bool false)], args := [d1, d2, d3] }
  | _ => none }
def UserFindWrongFalsely : Prop := userFindRow.holds Tryd.pinned (OpenSpec.ofChange userFindWrong)

/-- 'pelicanlaw08.UserFewer': WHATEVER THE INPUT: true; the input reads as it did. -/
def userFewerSpec : ChangeSpec := { name := "userFewer", fn := fun _ => fun
  | [d1, d2, d3] => { results := [.lit (.bool true)], args := [d1, d2, d3] }
  | _ => none }
def userFewerRow : OpenClaim := { program := "ytcimkkcajkmfoaadoor", sum := "7fb5230a7531083090b7d857660b56b6df28be9966199235c95804a9f07bca4d", func := "pelican/pelicanlaw08.UserFewer", spec := "userFewer", unfollowed := true, recurses := true, named := ["pelican/sha.first", "pelican/sha.more"], apart := false, laid := [("pelican/sha.first", laid_pelican_sha_first), ("pelican/sha.more", laid_pelican_sha_more)] }
def UserFewerSaid : Prop := userFewerRow.holds Tryd.pinned (OpenSpec.ofChange userFewerSpec)

/-- ITS FALSE NEIGHBOUR: 'it returns false'. Refute it at one input. -/
def userFewerWrong : ChangeSpec := { name := "userFewer", fn := fun _ => fun
  | [d1, d2, d3] => { results := [.lit (.bool false)], args := [d1, d2, d3] }
  | _ => none }
def UserFewerWrongFalsely : Prop := userFewerRow.holds Tryd.pinned (OpenSpec.ofChange userFewerWrong)

/-- 'pelicanlaw08.UserSecret': WHATEVER THE INPUT: true; the input reads as it did. -/
def userSecretSpec : ChangeSpec := { name := "userSecret", fn := fun _ => fun
  | [d1, d2, d3, d4] => { results := [.lit (.bool true)], args := [d1, d2, d3, d4] }
  | _ => none }
def userSecretRow : OpenClaim := { program := "ytcimkkcajkmfoaadoor", sum := "7fb5230a7531083090b7d857660b56b6df28be9966199235c95804a9f07bca4d", func := "pelican/pelicanlaw08.UserSecret", spec := "userSecret", unfollowed := true, recurses := true, named := ["pelican/sha.first", "pelican/sha.more"], apart := false, laid := [("pelican/sha.first", laid_pelican_sha_first), ("pelican/sha.more", laid_pelican_sha_more)] }
def UserSecretSaid : Prop := userSecretRow.holds Tryd.pinned (OpenSpec.ofChange userSecretSpec)

/-- ITS FALSE NEIGHBOUR: 'it returns false'. Refute it at one input. -/
def userSecretWrong : ChangeSpec := { name := "userSecret", fn := fun _ => fun
  | [d1, d2, d3, d4] => { results := [.lit (.bool false)], args := [d1, d2, d3, d4] }
  | _ => none }
def UserSecretWrongFalsely : Prop := userSecretRow.holds Tryd.pinned (OpenSpec.ofChange userSecretWrong)

/-- 'pelicanlaw08.UserRole': WHATEVER THE INPUT: true; the input reads as it did. -/
def userRoleSpec : ChangeSpec := { name := "userRole", fn := fun _ => fun
  | [d1, d2, d3, d4, d5] => { results := [.lit (.bool true)], args := [d1, d2, d3, d4, d5] }
  | _ => none }
def userRoleRow : OpenClaim := { program := "ytcimkkcajkmfoaadoor", sum := "7fb5230a7531083090b7d857660b56b6df28be9966199235c95804a9f07bca4d", func := "pelican/pelicanlaw08.UserRole", spec := "userRole", unfollowed := true, recurses := true, named := ["pelican/sha.first", "pelican/sha.more"], apart := false, laid := [("pelican/sha.first", laid_pelican_sha_first), ("pelican/sha.more", laid_pelican_sha_more)] }
def UserRoleSaid : Prop := userRoleRow.holds Tryd.pinned (OpenSpec.ofChange userRoleSpec)

/-- ITS FALSE NEIGHBOUR: 'it returns false'. Refute it at one input. -/
def userRoleWrong : ChangeSpec := { name := "userRole", fn := fun _ => fun
  | [d1, d2, d3, d4, d5] => { results := [.lit (.bool false)], args := [d1, d2, d3, d4, d5] }
  | _ => none }
def UserRoleWrongFalsely : Prop := userRoleRow.holds Tryd.pinned (OpenSpec.ofChange userRoleWrong)

/-- 'pelicanlaw08.UserMore': WHATEVER THE INPUT: true; the input reads as it did. -/
def userMoreSpec : ChangeSpec := { name := "userMore", fn := fun _ => fun
  | [d1, d2] => { results := [.lit (.bool true)], args := [d1, d2] }
  | _ => none }
def userMoreRow : OpenClaim := { program := "ytcimkkcajkmfoaadoor", sum := "7fb5230a7531083090b7d857660b56b6df28be9966199235c95804a9f07bca4d", func := "pelican/pelicanlaw08.UserMore", spec := "userMore", unfollowed := true, recurses := true, named := ["pelican/sha.first", "pelican/sha.more"], apart := false, laid := [("pelican/sha.first", laid_pelican_sha_first), ("pelican/sha.more", laid_pelican_sha_more)] }
def UserMoreSaid : Prop := userMoreRow.holds Tryd.pinned (OpenSpec.ofChange userMoreSpec)

/-- ITS FALSE NEIGHBOUR: 'it returns false'. Refute it at one input. -/
def userMoreWrong : ChangeSpec := { name := "userMore", fn := fun _ => fun
  | [d1, d2] => { results := [.lit (.bool false)], args := [d1, d2] }
  | _ => none }
def UserMoreWrongFalsely : Prop := userMoreRow.holds Tryd.pinned (OpenSpec.ofChange userMoreWrong)

/-- 'pelicanlaw11.ChainReads': WHATEVER THE INPUT: true; the input reads as it did. -/
def chainReadsSpec : ChangeSpec := { name := "chainReads", fn := fun _ => fun
  | [d] => { results := [.lit (.bool true)], args := [d] }
  | _ => none }
def chainReadsRow : OpenClaim := { program := "ytcimkkcajkmfoaadoor", sum := "7fb5230a7531083090b7d857660b56b6df28be9966199235c95804a9f07bca4d", func := "pelican/pelicanlaw11.ChainReads", spec := "chainReads", unfollowed := true, recurses := true, named := ["pelican/sha.first", "pelican/sha.more"], apart := false, laid := [("pelican/sha.first", laid_pelican_sha_first), ("pelican/sha.more", laid_pelican_sha_more)] }
def ChainReadsSaid : Prop := chainReadsRow.holds Tryd.pinned (OpenSpec.ofChange chainReadsSpec)

/-- ITS FALSE NEIGHBOUR: 'it returns false'. Refute it at one input. -/
def chainReadsWrong : ChangeSpec := { name := "chainReads", fn := fun _ => fun
  | [d] => { results := [.lit (.bool false)], args := [d] }
  | _ => none }
def ChainReadsWrongFalsely : Prop := chainReadsRow.holds Tryd.pinned (OpenSpec.ofChange chainReadsWrong)

/-- 'pelicanlaw11.ChainSpoiled': WHATEVER THE INPUT: true; the input reads as it did. -/
def chainSpoiledSpec : ChangeSpec := { name := "chainSpoiled", fn := fun _ => fun
  | [d1, d2, d3] => { results := [.lit (.bool true)], args := [d1, d2, d3] }
  | _ => none }
def chainSpoiledRow : OpenClaim := { program := "ytcimkkcajkmfoaadoor", sum := "7fb5230a7531083090b7d857660b56b6df28be9966199235c95804a9f07bca4d", func := "pelican/pelicanlaw11.ChainSpoiled", spec := "chainSpoiled", unfollowed := true, recurses := true, named := ["pelican/sha.first", "pelican/sha.more"], apart := false, laid := [("pelican/sha.first", laid_pelican_sha_first), ("pelican/sha.more", laid_pelican_sha_more)] }
def ChainSpoiledSaid : Prop := chainSpoiledRow.holds Tryd.pinned (OpenSpec.ofChange chainSpoiledSpec)

/-- ITS FALSE NEIGHBOUR: 'it returns false'. Refute it at one input. -/
def chainSpoiledWrong : ChangeSpec := { name := "chainSpoiled", fn := fun _ => fun
  | [d1, d2, d3] => { results := [.lit (.bool false)], args := [d1, d2, d3] }
  | _ => none }
def ChainSpoiledWrongFalsely : Prop := chainSpoiledRow.holds Tryd.pinned (OpenSpec.ofChange chainSpoiledWrong)

/-- 'pelicanlaw11.ChainMore': WHATEVER THE INPUT: true; the input reads as it did. -/
def chainMoreSpec : ChangeSpec := { name := "chainMore", fn := fun _ => fun
  | [d1, d2] => { results := [.lit (.bool true)], args := [d1, d2] }
  | _ => none }
def chainMoreRow : OpenClaim := { program := "ytcimkkcajkmfoaadoor", sum := "7fb5230a7531083090b7d857660b56b6df28be9966199235c95804a9f07bca4d", func := "pelican/pelicanlaw11.ChainMore", spec := "chainMore", unfollowed := true, recurses := true, named := ["pelican/sha.first", "pelican/sha.more"], apart := false, laid := [("pelican/sha.first", laid_pelican_sha_first), ("pelican/sha.more", laid_pelican_sha_more)] }
def ChainMoreSaid : Prop := chainMoreRow.holds Tryd.pinned (OpenSpec.ofChange chainMoreSpec)

/-- ITS FALSE NEIGHBOUR: 'it returns false'. Refute it at one input. -/
def chainMoreWrong : ChangeSpec := { name := "chainMore", fn := fun _ => fun
  | [d1, d2] => { results := [.lit (.bool false)], args := [d1, d2] }
  | _ => none }
def ChainMoreWrongFalsely : Prop := chainMoreRow.holds Tryd.pinned (OpenSpec.ofChange chainMoreWrong)

/-- 'pelicanlaw11.ChainTorn': WHATEVER THE INPUT: true; the input reads as it did. -/
def chainTornSpec : ChangeSpec := { name := "chainTorn", fn := fun _ => fun
  | [d1, d2] => { results := [.lit (.bool true)], args := [d1, d2] }
  | _ => none }
def chainTornRow : OpenClaim := { program := "ytcimkkcajkmfoaadoor", sum := "7fb5230a7531083090b7d857660b56b6df28be9966199235c95804a9f07bca4d", func := "pelican/pelicanlaw11.ChainTorn", spec := "chainTorn", unfollowed := true, recurses := true, named := ["pelican/sha.first", "pelican/sha.more"], apart := false, laid := [("pelican/sha.first", laid_pelican_sha_first), ("pelican/sha.more", laid_pelican_sha_more)] }
def ChainTornSaid : Prop := chainTornRow.holds Tryd.pinned (OpenSpec.ofChange chainTornSpec)

/-- ITS FALSE NEIGHBOUR: 'it returns false'. Refute it at one input. -/
def chainTornWrong : ChangeSpec := { name := "chainTorn", fn := fun _ => fun
  | [d1, d2] => { results := [.lit (.bool false)], args := [d1, d2] }
  | _ => none }
def ChainTornWrongFalsely : Prop := chainTornRow.holds Tryd.pinned (OpenSpec.ofChange chainTornWrong)

/-- 'pelicanlaw11.ChainTells': WHATEVER THE INPUT: true; the input reads as it did. -/
def chainTellsSpec : ChangeSpec := { name := "chainTells", fn := fun _ => fun
  | [d1, d2, d3, d4, d5] => { results := [.lit (.bool true)], args := [d1, d2, d3, d4, d5] }
  | _ => none }
def chainTellsRow : OpenClaim := { program := "ytcimkkcajkmfoaadoor", sum := "7fb5230a7531083090b7d857660b56b6df28be9966199235c95804a9f07bca4d", func := "pelican/pelicanlaw11.ChainTells", spec := "chainTells", unfollowed := true, recurses := true, named := ["pelican/sha.first", "pelican/sha.more"], apart := false, laid := [("pelican/sha.first", laid_pelican_sha_first), ("pelican/sha.more", laid_pelican_sha_more)] }
def ChainTellsSaid : Prop := chainTellsRow.holds Tryd.pinned (OpenSpec.ofChange chainTellsSpec)

/-- ITS FALSE NEIGHBOUR: 'it returns false'. Refute it at one input. -/
def chainTellsWrong : ChangeSpec := { name := "chainTells", fn := fun _ => fun
  | [d1, d2, d3, d4, d5] => { results := [.lit (.bool false)], args := [d1, d2, d3, d4, d5] }
  | _ => none }
def ChainTellsWrongFalsely : Prop := chainTellsRow.holds Tryd.pinned (OpenSpec.ofChange chainTellsWrong)

/-- 'pelicanlaw11.ChainClash': WHATEVER THE INPUT: true; the input reads as it did. -/
def chainClashSpec : ChangeSpec := { name := "chainClash", fn := fun _ => fun
  | [d1, d2] => { results := [.lit (.bool true)], args := [d1, d2] }
  | _ => none }
def chainClashRow : OpenClaim := { program := "ytcimkkcajkmfoaadoor", sum := "7fb5230a7531083090b7d857660b56b6df28be9966199235c95804a9f07bca4d", func := "pelican/pelicanlaw11.ChainClash", spec := "chainClash", unfollowed := true, recurses := true, named := ["pelican/sha.first", "pelican/sha.more"], apart := false, laid := [("pelican/sha.first", laid_pelican_sha_first), ("pelican/sha.more", laid_pelican_sha_more)] }
def ChainClashSaid : Prop := chainClashRow.holds Tryd.pinned (OpenSpec.ofChange chainClashSpec)

/-- ITS FALSE NEIGHBOUR: 'it returns false'. Refute it at one input. -/
def chainClashWrong : ChangeSpec := { name := "chainClash", fn := fun _ => fun
  | [d1, d2] => { results := [.lit (.bool false)], args := [d1, d2] }
  | _ => none }
def ChainClashWrongFalsely : Prop := chainClashRow.holds Tryd.pinned (OpenSpec.ofChange chainClashWrong)

/- THE SECOND FORM. 'bulk': how many values and letters a reading holds, each counted each time it is reached (what is shared counts as often as it is met; a slice's spare places count too). A statement '..UptoSaid' is the law's where the arguments, and the package variables that the reading takes, are together of bulk at most 1048576: NARROWER than '..Said'. Prove '..Said' where nothing that the law and all that it calls make is longer than what came in: it says more and counts as full. Else prove '..UptoSaid'. A law counts once. -/
mutual
def uptoBulk {H : Type} : DataW H → Nat
  | .lit (.string bytes) => bytes.length + 1
  | .lit _ => 1
  | .nil => 1
  | .ptr d => uptoBulk d + 1
  | .slice elems spare => uptoBulkAll elems + uptoBulkAll spare + 1
  | .agg parts => uptoBulkAll parts + 1
  | .iface _ d => uptoBulk d + 1
  | .map entries => uptoBulkEntries entries + 1
  | .held _ => 1
def uptoBulkAll {H : Type} : List (DataW H) → Nat
  | [] => 0
  | d :: r => uptoBulk d + uptoBulkAll r
def uptoBulkEntries {H : Type} : List (Lit × DataW H) → Nat
  | [] => 0
  | x :: r => uptoBulkEntry x + uptoBulkEntries r
def uptoBulkEntry {H : Type} : Lit × DataW H → Nat
  | (.string bytes, d) => bytes.length + uptoBulk d + 1
  | (_, d) => uptoBulk d + 1
 end
def uptoSmall : (H : Type) → List (DataW H) → Bool := fun _ ds => decide (uptoBulkAll ds ≤ 1048576)
def OpenSpec.upto (s : _root_.Go.ChangeSpec) : _root_.Go.OpenSpec := { _root_.Go.OpenSpec.ofChange s with cond := some uptoSmall }

/-- 'pelicanlaw08.UserTells', WHERE WHAT IT READS IS OF BULK AT MOST 1048576: true; the input reads as it did. -/
def userTellsUptoRow : OpenClaim := { program := "ytcimkkcajkmfoaadoor", sum := "7fb5230a7531083090b7d857660b56b6df28be9966199235c95804a9f07bca4d", func := "pelican/pelicanlaw08.UserTells", spec := "userTells", unfollowed := true, recurses := true, named := ["pelican/sha.first", "pelican/sha.more"], apart := false, laid := [("pelican/sha.first", laid_pelican_sha_first), ("pelican/sha.more", laid_pelican_sha_more)], narrowed := true }
def UserTellsUptoSaid : Prop := userTellsUptoRow.holds Tryd.pinned (OpenSpec.upto userTellsSpec)

/-- 'pelicanlaw08.UserFind', WHERE WHAT IT READS IS OF BULK AT MOST 1048576: true; the input reads as it did. -/
def userFindUptoRow : OpenClaim := { program := "ytcimkkcajkmfoaadoor", sum := "7fb5230a7531083090b7d857660b56b6df28be9966199235c95804a9f07bca4d", func := "pelican/pelicanlaw08.UserFind", spec := "userFind", unfollowed := true, recurses := true, named := ["pelican/sha.first", "pelican/sha.more"], apart := false, laid := [("pelican/sha.first", laid_pelican_sha_first), ("pelican/sha.more", laid_pelican_sha_more)], narrowed := true }
def UserFindUptoSaid : Prop := userFindUptoRow.holds Tryd.pinned (OpenSpec.upto userFindSpec)

/-- 'pelicanlaw08.UserFewer', WHERE WHAT IT READS IS OF BULK AT MOST 1048576: true; the input reads as it did. -/
def userFewerUptoRow : OpenClaim := { program := "ytcimkkcajkmfoaadoor", sum := "7fb5230a7531083090b7d857660b56b6df28be9966199235c95804a9f07bca4d", func := "pelican/pelicanlaw08.UserFewer", spec := "userFewer", unfollowed := true, recurses := true, named := ["pelican/sha.first", "pelican/sha.more"], apart := false, laid := [("pelican/sha.first", laid_pelican_sha_first), ("pelican/sha.more", laid_pelican_sha_more)], narrowed := true }
def UserFewerUptoSaid : Prop := userFewerUptoRow.holds Tryd.pinned (OpenSpec.upto userFewerSpec)

/-- 'pelicanlaw08.UserSecret', WHERE WHAT IT READS IS OF BULK AT MOST 1048576: true; the input reads as it did. -/
def userSecretUptoRow : OpenClaim := { program := "ytcimkkcajkmfoaadoor", sum := "7fb5230a7531083090b7d857660b56b6df28be9966199235c95804a9f07bca4d", func := "pelican/pelicanlaw08.UserSecret", spec := "userSecret", unfollowed := true, recurses := true, named := ["pelican/sha.first", "pelican/sha.more"], apart := false, laid := [("pelican/sha.first", laid_pelican_sha_first), ("pelican/sha.more", laid_pelican_sha_more)], narrowed := true }
def UserSecretUptoSaid : Prop := userSecretUptoRow.holds Tryd.pinned (OpenSpec.upto userSecretSpec)

/-- 'pelicanlaw08.UserRole', WHERE WHAT IT READS IS OF BULK AT MOST 1048576: true; the input reads as it did. -/
def userRoleUptoRow : OpenClaim := { program := "ytcimkkcajkmfoaadoor", sum := "7fb5230a7531083090b7d857660b56b6df28be9966199235c95804a9f07bca4d", func := "pelican/pelicanlaw08.UserRole", spec := "userRole", unfollowed := true, recurses := true, named := ["pelican/sha.first", "pelican/sha.more"], apart := false, laid := [("pelican/sha.first", laid_pelican_sha_first), ("pelican/sha.more", laid_pelican_sha_more)], narrowed := true }
def UserRoleUptoSaid : Prop := userRoleUptoRow.holds Tryd.pinned (OpenSpec.upto userRoleSpec)

/-- 'pelicanlaw08.UserMore', WHERE WHAT IT READS IS OF BULK AT MOST 1048576: true; the input reads as it did. -/
def userMoreUptoRow : OpenClaim := { program := "ytcimkkcajkmfoaadoor", sum := "7fb5230a7531083090b7d857660b56b6df28be9966199235c95804a9f07bca4d", func := "pelican/pelicanlaw08.UserMore", spec := "userMore", unfollowed := true, recurses := true, named := ["pelican/sha.first", "pelican/sha.more"], apart := false, laid := [("pelican/sha.first", laid_pelican_sha_first), ("pelican/sha.more", laid_pelican_sha_more)], narrowed := true }
def UserMoreUptoSaid : Prop := userMoreUptoRow.holds Tryd.pinned (OpenSpec.upto userMoreSpec)

/-- 'pelicanlaw11.ChainReads', WHERE WHAT IT READS IS OF BULK AT MOST 1048576: true; the input reads as it did. -/
def chainReadsUptoRow : OpenClaim := { program := "ytcimkkcajkmfoaadoor", sum := "7fb5230a7531083090b7d857660b56b6df28be9966199235c95804a9f07bca4d", func := "pelican/pelicanlaw11.ChainReads", spec := "chainReads", unfollowed := true, recurses := true, named := ["pelican/sha.first", "pelican/sha.more"], apart := false, laid := [("pelican/sha.first", laid_pelican_sha_first), ("pelican/sha.more", laid_pelican_sha_more)], narrowed := true }
def ChainReadsUptoSaid : Prop := chainReadsUptoRow.holds Tryd.pinned (OpenSpec.upto chainReadsSpec)

/-- 'pelicanlaw11.ChainSpoiled', WHERE WHAT IT READS IS OF BULK AT MOST 1048576: true; the input reads as it did. -/
def chainSpoiledUptoRow : OpenClaim := { program := "ytcimkkcajkmfoaadoor", sum := "7fb5230a7531083090b7d857660b56b6df28be9966199235c95804a9f07bca4d", func := "pelican/pelicanlaw11.ChainSpoiled", spec := "chainSpoiled", unfollowed := true, recurses := true, named := ["pelican/sha.first", "pelican/sha.more"], apart := false, laid := [("pelican/sha.first", laid_pelican_sha_first), ("pelican/sha.more", laid_pelican_sha_more)], narrowed := true }
def ChainSpoiledUptoSaid : Prop := chainSpoiledUptoRow.holds Tryd.pinned (OpenSpec.upto chainSpoiledSpec)

/-- 'pelicanlaw11.ChainMore', WHERE WHAT IT READS IS OF BULK AT MOST 1048576: true; the input reads as it did. -/
def chainMoreUptoRow : OpenClaim := { program := "ytcimkkcajkmfoaadoor", sum := "7fb5230a7531083090b7d857660b56b6df28be9966199235c95804a9f07bca4d", func := "pelican/pelicanlaw11.ChainMore", spec := "chainMore", unfollowed := true, recurses := true, named := ["pelican/sha.first", "pelican/sha.more"], apart := false, laid := [("pelican/sha.first", laid_pelican_sha_first), ("pelican/sha.more", laid_pelican_sha_more)], narrowed := true }
def ChainMoreUptoSaid : Prop := chainMoreUptoRow.holds Tryd.pinned (OpenSpec.upto chainMoreSpec)

/-- 'pelicanlaw11.ChainTorn', WHERE WHAT IT READS IS OF BULK AT MOST 1048576: true; the input reads as it did. -/
def chainTornUptoRow : OpenClaim := { program := "ytcimkkcajkmfoaadoor", sum := "7fb5230a7531083090b7d857660b56b6df28be9966199235c95804a9f07bca4d", func := "pelican/pelicanlaw11.ChainTorn", spec := "chainTorn", unfollowed := true, recurses := true, named := ["pelican/sha.first", "pelican/sha.more"], apart := false, laid := [("pelican/sha.first", laid_pelican_sha_first), ("pelican/sha.more", laid_pelican_sha_more)], narrowed := true }
def ChainTornUptoSaid : Prop := chainTornUptoRow.holds Tryd.pinned (OpenSpec.upto chainTornSpec)

/-- 'pelicanlaw11.ChainTells', WHERE WHAT IT READS IS OF BULK AT MOST 1048576: true; the input reads as it did. -/
def chainTellsUptoRow : OpenClaim := { program := "ytcimkkcajkmfoaadoor", sum := "7fb5230a7531083090b7d857660b56b6df28be9966199235c95804a9f07bca4d", func := "pelican/pelicanlaw11.ChainTells", spec := "chainTells", unfollowed := true, recurses := true, named := ["pelican/sha.first", "pelican/sha.more"], apart := false, laid := [("pelican/sha.first", laid_pelican_sha_first), ("pelican/sha.more", laid_pelican_sha_more)], narrowed := true }
def ChainTellsUptoSaid : Prop := chainTellsUptoRow.holds Tryd.pinned (OpenSpec.upto chainTellsSpec)

/-- 'pelicanlaw11.ChainClash', WHERE WHAT IT READS IS OF BULK AT MOST 1048576: true; the input reads as it did. -/
def chainClashUptoRow : OpenClaim := { program := "ytcimkkcajkmfoaadoor", sum := "7fb5230a7531083090b7d857660b56b6df28be9966199235c95804a9f07bca4d", func := "pelican/pelicanlaw11.ChainClash", spec := "chainClash", unfollowed := true, recurses := true, named := ["pelican/sha.first", "pelican/sha.more"], apart := false, laid := [("pelican/sha.first", laid_pelican_sha_first), ("pelican/sha.more", laid_pelican_sha_more)], narrowed := true }
def ChainClashUptoSaid : Prop := chainClashUptoRow.holds Tryd.pinned (OpenSpec.upto chainClashSpec)

end Rows
end Go.Proofs.YtcimkkcajkmfoaaDoor
