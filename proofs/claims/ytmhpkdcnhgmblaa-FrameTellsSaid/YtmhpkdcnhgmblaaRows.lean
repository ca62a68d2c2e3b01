/-
  No cell of these rows narrows 'for every input' (looked for: loops, veiled, ifaces, maps, wideKeys, modest, calm, conditions, laid).
  DERIVED. THE GIVEN ROWS OF THIS SEAT. 6 by the template 'for every input the law returns true; each argument reads behind the call as it read before'; 0 by the template 'total and deterministic' (their statements: YtmhpkdcnhgmblaaTotals.lean).
  GIVEN WITH THE SEED: the statements are not yours to turn. If you find one false, say at which input.
  Laid BY PROGRAM, IN A SANDBOX (cutbox-rows.mjs): the forced cells as the released guide's own fill.sh prints them over the translation a63657cae3215f36… (all of the seat's roots in one cut). By AI agents, Wed Nov 11 2026. No macro, syntax, notation, axiom, sorry.
-/
import Derived.Test.YtmhpkdcnhgmblaaChecked
import GoSem.Claim
import GoSem.ClaimJoined
import GoSem.ClaimMapViews
import Derived.JoinedTies
import Derived.KernelRfl
namespace Go.Proofs.Ytmhpkdcnhgmblaa
/- THE CELL 'sum', in the pinned program and in every row, IS THE sha256 OF THE DUMP (.gsa) THAT YtmhpkdcnhgmblaaProg.lean LOADS. Nothing in Lean hashes anything: it is a label: what it is worth is what the hold of that sum in a sandbox is worth. -/
noncomputable def Try.pinned : Pinned := { name := "ytmhpkdcnhgmblaa", sum := "a63657cae3215f36d81b9c908a0e337e59935dbc7a290e481ef15cdecd976476", checked := Try.checked }
namespace Rows
def none {H : Type} : Left H := { results := [], args := [] }

/-- 'pelicanlaw04.FrameBack': WHATEVER THE INPUT: true; the input reads as it did. -/
def frameBackSpec : ChangeSpec := { name := "frameBack", fn := fun _ => fun
  | [d1, d2] => { results := [.lit (.bool true)], args := [d1, d2] }
  | _ => none }
def frameBackRow : OpenClaim := { program := "ytmhpkdcnhgmblaa", sum := "a63657cae3215f36d81b9c908a0e337e59935dbc7a290e481ef15cdecd976476", func := "pelican/pelicanlaw04.FrameBack", spec := "frameBack", inPlace := ["slices.overlaps[pelican/frame.slot]"], unfollowed := true, recurses := true, apart := false }
def FrameBackSaid : Prop := frameBackRow.holds Try.pinned (OpenSpec.ofChange frameBackSpec)

/-- ITS FALSE NEIGHBOUR: 'it returns false'. Refute it at one input. -/
def frameBackWrong : ChangeSpec := { name := "frameBack", fn := fun _ => fun
  | [d1, d2] => { results := [.lit (.bool false)], args := [d1, d2] }
  | _ => none }
def FrameBackWrongFalsely : Prop := frameBackRow.holds Try.pinned (OpenSpec.ofChange frameBackWrong)

/-- 'pelicanlaw04.FrameSplit': WHATEVER THE INPUT: true; the input reads as it did. -/
def frameSplitSpec : ChangeSpec := { name := "frameSplit", fn := fun _ => fun
  | [d1, d2, d3, d4] => { results := [.lit (.bool true)], args := [d1, d2, d3, d4] }
  | _ => none }
def frameSplitRow : OpenClaim := { program := "ytmhpkdcnhgmblaa", sum := "a63657cae3215f36d81b9c908a0e337e59935dbc7a290e481ef15cdecd976476", func := "pelican/pelicanlaw04.FrameSplit", spec := "frameSplit", inPlace := ["slices.overlaps[pelican/frame.slot]"], unfollowed := true, recurses := true, apart := false }
def FrameSplitSaid : Prop := frameSplitRow.holds Try.pinned (OpenSpec.ofChange frameSplitSpec)

/-- ITS FALSE NEIGHBOUR: 'it returns false'. Refute it at one input. -/
def frameSplitWrong : ChangeSpec := { name := "frameSplit", fn := fun _ => fun
  | [d1, d2, d3, d4] => { results := [.lit (.bool false)], args := [d1, d2, d3, d4] }
  | _ => none }
def FrameSplitWrongFalsely : Prop := frameSplitRow.holds Try.pinned (OpenSpec.ofChange frameSplitWrong)

/-- 'pelicanlaw04.FrameCut': WHATEVER THE INPUT: true; the input reads as it did. -/
def frameCutSpec : ChangeSpec := { name := "frameCut", fn := fun _ => fun
  | [d1, d2, d3] => { results := [.lit (.bool true)], args := [d1, d2, d3] }
  | _ => none }
def frameCutRow : OpenClaim := { program := "ytmhpkdcnhgmblaa", sum := "a63657cae3215f36d81b9c908a0e337e59935dbc7a290e481ef15cdecd976476", func := "pelican/pelicanlaw04.FrameCut", spec := "frameCut", inPlace := ["slices.overlaps[pelican/frame.slot]"], unfollowed := true, recurses := true, apart := false }
def FrameCutSaid : Prop := frameCutRow.holds Try.pinned (OpenSpec.ofChange frameCutSpec)

/-- ITS FALSE NEIGHBOUR: 'it returns false'. Refute it at one input. -/
def frameCutWrong : ChangeSpec := { name := "frameCut", fn := fun _ => fun
  | [d1, d2, d3] => { results := [.lit (.bool false)], args := [d1, d2, d3] }
  | _ => none }
def FrameCutWrongFalsely : Prop := frameCutRow.holds Try.pinned (OpenSpec.ofChange frameCutWrong)

/-- 'pelicanlaw04.FrameLong': WHATEVER THE INPUT: true; the input reads as it did. -/
def frameLongSpec : ChangeSpec := { name := "frameLong", fn := fun _ => fun
  | [d1, d2] => { results := [.lit (.bool true)], args := [d1, d2] }
  | _ => none }
def frameLongRow : OpenClaim := { program := "ytmhpkdcnhgmblaa", sum := "a63657cae3215f36d81b9c908a0e337e59935dbc7a290e481ef15cdecd976476", func := "pelican/pelicanlaw04.FrameLong", spec := "frameLong", inPlace := ["slices.overlaps[pelican/frame.slot]"], unfollowed := true, recurses := true, apart := false }
def FrameLongSaid : Prop := frameLongRow.holds Try.pinned (OpenSpec.ofChange frameLongSpec)

/-- ITS FALSE NEIGHBOUR: 'it returns false'. Refute it at one input. -/
def frameLongWrong : ChangeSpec := { name := "frameLong", fn := fun _ => fun
  | [d1, d2] => { results := [.lit (.bool false)], args := [d1, d2] }
  | _ => none }
def FrameLongWrongFalsely : Prop := frameLongRow.holds Try.pinned (OpenSpec.ofChange frameLongWrong)

/-- 'pelicanlaw04.FrameTells': WHATEVER THE INPUT: true; the input reads as it did. -/
def frameTellsSpec : ChangeSpec := { name := "frameTells", fn := fun _ => fun
  | [d1, d2] => { results := [.lit (.bool true)], args := [d1, d2] }
  | _ => none }
def frameTellsRow : OpenClaim := { program := "ytmhpkdcnhgmblaa", sum := "a63657cae3215f36d81b9c908a0e337e59935dbc7a290e481ef15cdecd976476", func := "pelican/pelicanlaw04.FrameTells", spec := "frameTells", inPlace := ["slices.overlaps[pelican/frame.slot]"], unfollowed := true, recurses := true, apart := false }
def FrameTellsSaid : Prop := frameTellsRow.holds Try.pinned (OpenSpec.ofChange frameTellsSpec)

/-- ITS FALSE NEIGHBOUR: 'it returns false'. Refute it at one input. -/
def frameTellsWrong : ChangeSpec := { name := "frameTells", fn := fun _ => fun
  | [d1, d2] => { results := [.lit (.bool false)], args := [d1, d2] }
  | _ => none }
def FrameTellsWrongFalsely : Prop := frameTellsRow.holds Try.pinned (OpenSpec.ofChange frameTellsWrong)

/-- 'pelicanlaw04.FrameBody': WHATEVER THE INPUT: true; the input reads as it did. -/
def frameBodySpec : ChangeSpec := { name := "frameBody", fn := fun _ => fun
  | [d1, d2] => { results := [.lit (.bool true)], args := [d1, d2] }
  | _ => none }
def frameBodyRow : OpenClaim := { program := "ytmhpkdcnhgmblaa", sum := "a63657cae3215f36d81b9c908a0e337e59935dbc7a290e481ef15cdecd976476", func := "pelican/pelicanlaw04.FrameBody", spec := "frameBody", inPlace := ["slices.overlaps[pelican/frame.slot]"], unfollowed := true, recurses := true, apart := false }
def FrameBodySaid : Prop := frameBodyRow.holds Try.pinned (OpenSpec.ofChange frameBodySpec)

/-- ITS FALSE NEIGHBOUR: 'it returns false'. Refute it at one input. -/
def frameBodyWrong : ChangeSpec := { name := "frameBody", fn := fun _ => fun
  | [d1, d2] => { results := [.lit (.bool false)], args := [d1, d2] }
  | _ => none }
def FrameBodyWrongFalsely : Prop := frameBodyRow.holds Try.pinned (OpenSpec.ofChange frameBodyWrong)

/- THE SECOND FORM. 'bulk': how many values and letters a reading holds, each counted each time it is reached (what is shared counts as often as it is met; a slice's spare places count too). A statement '..UptoSaid' is the law's where the arguments, and the package variables that the reading takes, are together of bulk at most 1048576: NARROWER than '..Said'. Prove '..Said' where nothing that the law and all that it calls make is longer than what came in: it says more and counts as full. Else prove '..UptoSaid'. A law counts once. -/
mutual
def uptoBulk {H : Type} : DataW H → Nat
  | .lit (.string bytes) => bytes.length + 1
  | .lit _ => 1
  | .nil => 1
  | .ptr d => uptoBulk d + 1
  | .slice elems spare => uptoBulkAll elems + uptoBulkAll spare + 1
  | .agg parts => uptoBulkAll parts + 1
  | .iface _ d => uptoBulk d + 1
  | .map entries => uptoBulkEntries entries + 1
  | .held _ => 1
def uptoBulkAll {H : Type} : List (DataW H) → Nat
  | [] => 0
  | d :: r => uptoBulk d + uptoBulkAll r
def uptoBulkEntries {H : Type} : List (Lit × DataW H) → Nat
  | [] => 0
  | x :: r => uptoBulkEntry x + uptoBulkEntries r
def uptoBulkEntry {H : Type} : Lit × DataW H → Nat
  | (.string bytes, d) => bytes.length + uptoBulk d + 1
  | (_, d) => uptoBulk d + 1
 end
def uptoSmall : (H : Type) → List (DataW H) → Bool := fun _ ds => decide (uptoBulkAll ds ≤ 1048576)
def OpenSpec.upto (s : _root_.Go.ChangeSpec) : _root_.Go.OpenSpec := { _root_.Go.OpenSpec.ofChange s with cond := some uptoSmall }

/-- 'pelicanlaw04.FrameBack', WHERE WHAT IT READS IS OF BULK AT MOST 1048576: true; the input reads as it did. -/
def frameBackUptoRow : OpenClaim := { program := "ytmhpkdcnhgmblaa", sum := "a63657cae3215f36d81b9c908a0e337e59935dbc7a290e481ef15cdecd976476", func := "pelican/pelicanlaw04.FrameBack", spec := "frameBack", inPlace := ["slices.overlaps[pelican/frame.slot]"], unfollowed := true, recurses := true, apart := false, narrowed := true }
def FrameBackUptoSaid : Prop := frameBackUptoRow.holds Try.pinned (OpenSpec.upto frameBackSpec)

/-- 'pelicanlaw04.FrameSplit', WHERE WHAT IT READS IS OF BULK AT MOST 1048576: true; the input reads as it did. -/
def frameSplitUptoRow : OpenClaim := { program := "ytmhpkdcnhgmblaa", sum := "a63657cae3215f36d81b9c908a0e337e59935dbc7a290e481ef15cdecd976476", func := "pelican/pelicanlaw04.FrameSplit", spec := "frameSplit", inPlace := ["slices.overlaps[pelican/frame.slot]"], unfollowed := true, recurses := true, apart := false, narrowed := true }
def FrameSplitUptoSaid : Prop := frameSplitUptoRow.holds Try.pinned (OpenSpec.upto frameSplitSpec)

/-- 'pelicanlaw04.FrameCut', WHERE WHAT IT READS IS OF BULK AT MOST 1048576: true; the input reads as it did. -/
def frameCutUptoRow : OpenClaim := { program := "ytmhpkdcnhgmblaa", sum := "a63657cae3215f36d81b9c908a0e337e59935dbc7a290e481ef15cdecd976476", func := "pelican/pelicanlaw04.FrameCut", spec := "frameCut", inPlace := ["slices.overlaps[pelican/frame.slot]"], unfollowed := true, recurses := true, apart := false, narrowed := true }
def FrameCutUptoSaid : Prop := frameCutUptoRow.holds Try.pinned (OpenSpec.upto frameCutSpec)

/-- 'pelicanlaw04.FrameLong', WHERE WHAT IT READS IS OF BULK AT MOST 1048576: true; the input reads as it did. -/
def frameLongUptoRow : OpenClaim := { program := "ytmhpkdcnhgmblaa", sum := "a63657cae3215f36d81b9c908a0e337e59935dbc7a290e481ef15cdecd976476", func := "pelican/pelicanlaw04.FrameLong", spec := "frameLong", inPlace := ["slices.overlaps[pelican/frame.slot]"], unfollowed := true, recurses := true, apart := false, narrowed := true }
def FrameLongUptoSaid : Prop := frameLongUptoRow.holds Try.pinned (OpenSpec.upto frameLongSpec)

/-- 'pelicanlaw04.FrameTells', WHERE WHAT IT READS IS OF BULK AT MOST 1048576: true; the input reads as it did. -/
def frameTellsUptoRow : OpenClaim := { program := "ytmhpkdcnhgmblaa", sum := "a63657cae3215f36d81b9c908a0e337e59935dbc7a290e481ef15cdecd976476", func := "pelican/pelicanlaw04.FrameTells", spec := "frameTells", inPlace := ["slices.overlaps[pelican/frame.slot]"], unfollowed := true, recurses := true, apart := false, narrowed := true }
def FrameTellsUptoSaid : Prop := frameTellsUptoRow.holds Try.pinned (OpenSpec.upto frameTellsSpec)

/-- 'pelicanlaw04.FrameBody', WHERE WHAT IT READS IS OF BULK AT MOST 1048576: true; the input reads as it did. -/
def frameBodyUptoRow : OpenClaim := { program := "ytmhpkdcnhgmblaa", sum := "a63657cae3215f36d81b9c908a0e337e59935dbc7a290e481ef15cdecd976476", func := "pelican/pelicanlaw04.FrameBody", spec := "frameBody", inPlace := ["slices.overlaps[pelican/frame.slot]"], unfollowed := true, recurses := true, apart := false, narrowed := true }
def FrameBodyUptoSaid : Prop := frameBodyUptoRow.holds Try.pinned (OpenSpec.upto frameBodySpec)

end Rows
end Go.Proofs.Ytmhpkdcnhgmblaa
