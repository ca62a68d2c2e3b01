/-
  No cell of these rows narrows 'for every input' (looked for: loops, veiled, ifaces, maps, wideKeys, modest, calm, conditions, laid).
  DERIVED. THE GIVEN ROWS OF THIS SEAT. 6 by the template 'for every input the law returns true; each argument reads behind the call as it read before'; 0 by the template 'total and deterministic' (their statements: YtnkapponcbgbhaaTotals.lean).
  GIVEN WITH THE SEED: the statements are not yours to turn. If you find one false, say at which input.
  Laid BY PROGRAM, IN A SANDBOX (cutbox-rows.mjs): the forced cells as the released guide's own fill.sh prints them over the translation f1c9f6715e5294a7… (all of the seat's roots in one cut). By AI agents, Wed Nov 11 2026. No macro, syntax, notation, axiom, sorry.
-/
import Derived.Test.YtnkapponcbgbhaaChecked
import GoSem.Claim
import GoSem.ClaimJoined
import GoSem.ClaimMapViews
import Derived.JoinedTies
import Derived.KernelRfl
namespace Go.Proofs.Ytnkapponcbgbhaa
/- THE CELL 'sum', in the pinned program and in every row, IS THE sha256 OF THE DUMP (.gsa) THAT YtnkapponcbgbhaaProg.lean LOADS. Nothing in Lean hashes anything: it is a label: what it is worth is what the hold of that sum in a sandbox is worth. -/
noncomputable def Try.pinned : Pinned := { name := "ytnkapponcbgbhaa", sum := "f1c9f6715e5294a761f0c4e88b97ede8c475c586bda5a3e60b177ee49e6102cb", checked := Try.checked }
namespace Rows
def none {H : Type} : Left H := { results := [], args := [] }

/-- 'pelicanlaw24.PartTells': WHATEVER THE INPUT: true; the input reads as it did. -/
def partTellsSpec : ChangeSpec := { name := "partTells", fn := fun _ => fun
  | [d1, d2] => { results := [.lit (.bool true)], args := [d1, d2] }
  | _ => none }
def partTellsRow : OpenClaim := { program := "ytnkapponcbgbhaa", sum := "f1c9f6715e5294a761f0c4e88b97ede8c475c586bda5a3e60b177ee49e6102cb", func := "pelican/pelicanlaw24.PartTells", spec := "partTells", inPlace := ["slices.overlaps[pelican/frame.slot]"], unfollowed := true, recurses := true, apart := false }
def PartTellsSaid : Prop := partTellsRow.holds Try.pinned (OpenSpec.ofChange partTellsSpec)

/-- ITS FALSE NEIGHBOUR: 'it returns false'. Refute it at one input. -/
def partTellsWrong : ChangeSpec := { name := "partTells", fn := fun _ => fun
  | [d1, d2] => { results := [.lit (.bool false)], args := [d1, d2] }
  | _ => none }
def PartTellsWrongFalsely : Prop := partTellsRow.holds Try.pinned (OpenSpec.ofChange partTellsWrong)

/-- 'pelicanlaw24.PartUsers': WHATEVER THE INPUT: true; the input reads as it did. -/
def partUsersSpec : ChangeSpec := { name := "partUsers", fn := fun _ => fun
  | [d1, d2, d3] => { results := [.lit (.bool true)], args := [d1, d2, d3] }
  | _ => none }
def partUsersRow : OpenClaim := { program := "ytnkapponcbgbhaa", sum := "f1c9f6715e5294a761f0c4e88b97ede8c475c586bda5a3e60b177ee49e6102cb", func := "pelican/pelicanlaw24.PartUsers", spec := "partUsers", inPlace := ["slices.overlaps[pelican/frame.slot]"], unfollowed := true, recurses := true, apart := false }
def PartUsersSaid : Prop := partUsersRow.holds Try.pinned (OpenSpec.ofChange partUsersSpec)

/-- ITS FALSE NEIGHBOUR: 'it returns false'. Refute it at one input. -/
def partUsersWrong : ChangeSpec := { name := "partUsers", fn := fun _ => fun
  | [d1, d2, d3] => { results := [.lit (.bool false)], args := [d1, d2, d3] }
  | _ => none }
def PartUsersWrongFalsely : Prop := partUsersRow.holds Try.pinned (OpenSpec.ofChange partUsersWrong)

/-- 'pelicanlaw24.PartAhead': WHATEVER THE INPUT: true; the input reads as it did. -/
def partAheadSpec : ChangeSpec := { name := "partAhead", fn := fun _ => fun
  | [d1, d2, d3] => { results := [.lit (.bool true)], args := [d1, d2, d3] }
  | _ => none }
def partAheadRow : OpenClaim := { program := "ytnkapponcbgbhaa", sum := "f1c9f6715e5294a761f0c4e88b97ede8c475c586bda5a3e60b177ee49e6102cb", func := "pelican/pelicanlaw24.PartAhead", spec := "partAhead", inPlace := ["slices.overlaps[pelican/frame.slot]"], unfollowed := true, recurses := true, apart := false }
def PartAheadSaid : Prop := partAheadRow.holds Try.pinned (OpenSpec.ofChange partAheadSpec)

/-- ITS FALSE NEIGHBOUR: 'it returns false'. Refute it at one input. -/
def partAheadWrong : ChangeSpec := { name := "partAhead", fn := fun _ => fun
  | [d1, d2, d3] => { results := [.lit (.bool false)], args := [d1, d2, d3] }
  | _ => none }
def PartAheadWrongFalsely : Prop := partAheadRow.holds Try.pinned (OpenSpec.ofChange partAheadWrong)

/-- 'pelicanlaw24.PartStrip': WHATEVER THE INPUT: true; the input reads as it did. -/
def partStripSpec : ChangeSpec := { name := "partStrip", fn := fun _ => fun
  | [d1, d2] => { results := [.lit (.bool true)], args := [d1, d2] }
  | _ => none }
def partStripRow : OpenClaim := { program := "ytnkapponcbgbhaa", sum := "f1c9f6715e5294a761f0c4e88b97ede8c475c586bda5a3e60b177ee49e6102cb", func := "pelican/pelicanlaw24.PartStrip", spec := "partStrip", inPlace := ["slices.overlaps[pelican/frame.slot]"], unfollowed := true, recurses := true, apart := false }
def PartStripSaid : Prop := partStripRow.holds Try.pinned (OpenSpec.ofChange partStripSpec)

/-- ITS FALSE NEIGHBOUR: 'it returns false'. Refute it at one input. -/
def partStripWrong : ChangeSpec := { name := "partStrip", fn := fun _ => fun
  | [d1, d2] => { results := [.lit (.bool false)], args := [d1, d2] }
  | _ => none }
def PartStripWrongFalsely : Prop := partStripRow.holds Try.pinned (OpenSpec.ofChange partStripWrong)

/-- 'pelicanlaw24.PartBreaks': WHATEVER THE INPUT: true; the input reads as it did. -/
def partBreaksSpec : ChangeSpec := { name := "partBreaks", fn := fun _ => fun
  | [d1, d2, d3] => { results := [.lit (.bool true)], args := [d1, d2, d3] }
  | _ => none }
def partBreaksRow : OpenClaim := { program := "ytnkapponcbgbhaa", sum := "f1c9f6715e5294a761f0c4e88b97ede8c475c586bda5a3e60b177ee49e6102cb", func := "pelican/pelicanlaw24.PartBreaks", spec := "partBreaks", inPlace := ["slices.overlaps[pelican/frame.slot]"], unfollowed := true, recurses := true, apart := false }
def PartBreaksSaid : Prop := partBreaksRow.holds Try.pinned (OpenSpec.ofChange partBreaksSpec)

/-- ITS FALSE NEIGHBOUR: 'it returns false'. Refute it at one input. -/
def partBreaksWrong : ChangeSpec := { name := "partBreaks", fn := fun _ => fun
  | [d1, d2, d3] => { results := [.lit (.bool false)], args := [d1, d2, d3] }
  | _ => none }
def PartBreaksWrongFalsely : Prop := partBreaksRow.holds Try.pinned (OpenSpec.ofChange partBreaksWrong)

/-- 'pelicanlaw24.PartClear': WHATEVER THE INPUT: true; the input reads as it did. -/
def partClearSpec : ChangeSpec := { name := "partClear", fn := fun _ => fun
  | [d1, d2] => { results := [.lit (.bool true)], args := [d1, d2] }
  | _ => none }
def partClearRow : OpenClaim := { program := "ytnkapponcbgbhaa", sum := "f1c9f6715e5294a761f0c4e88b97ede8c475c586bda5a3e60b177ee49e6102cb", func := "pelican/pelicanlaw24.PartClear", spec := "partClear", inPlace := ["slices.overlaps[pelican/frame.slot]"], unfollowed := true, recurses := true, apart := false }
def PartClearSaid : Prop := partClearRow.holds Try.pinned (OpenSpec.ofChange partClearSpec)

/-- ITS FALSE NEIGHBOUR: 'it returns false'. Refute it at one input. -/
def partClearWrong : ChangeSpec := { name := "partClear", fn := fun _ => fun
  | [d1, d2] => { results := [.lit (.bool false)], args := [d1, d2] }
  | _ => none }
def PartClearWrongFalsely : Prop := partClearRow.holds Try.pinned (OpenSpec.ofChange partClearWrong)

/- THE SECOND FORM. 'bulk': how many values and letters a reading holds, each counted each time it is reached (what is shared counts as often as it is met; a slice's spare places count too). A statement '..UptoSaid' is the law's where the arguments, and the package variables that the reading takes, are together of bulk at most 1048576: NARROWER than '..Said'. Prove '..Said' where nothing that the law and all that it calls make is longer than what came in: it says more and counts as full. Else prove '..UptoSaid'. A law counts once. -/
mutual
def uptoBulk {H : Type} : DataW H → Nat
  | .lit (.string bytes) => bytes.length + 1
  | .lit _ => 1
  | .nil => 1
  | .ptr d => uptoBulk d + 1
  | .slice elems spare => uptoBulkAll elems + uptoBulkAll spare + 1
  | .agg parts => uptoBulkAll parts + 1
  | .iface _ d => uptoBulk d + 1
  | .map entries => uptoBulkEntries entries + 1
  | .held _ => 1
def uptoBulkAll {H : Type} : List (DataW H) → Nat
  | [] => 0
  | d :: r => uptoBulk d + uptoBulkAll r
def uptoBulkEntries {H : Type} : List (Lit × DataW H) → Nat
  | [] => 0
  | x :: r => uptoBulkEntry x + uptoBulkEntries r
def uptoBulkEntry {H : Type} : Lit × DataW H → Nat
  | (.string bytes, d) => bytes.length + uptoBulk d + 1
  | (_, d) => uptoBulk d + 1
 end
def uptoSmall : (H : Type) → List (DataW H) → Bool := fun _ ds => decide (uptoBulkAll ds ≤ 1048576)
def OpenSpec.upto (s : _root_.Go.ChangeSpec) : _root_.Go.OpenSpec := { _root_.Go.OpenSpec.ofChange s with cond := some uptoSmall }

/-- 'pelicanlaw24.PartTells', WHERE WHAT IT READS IS OF BULK AT MOST 1048576: true; the input reads as it did. -/
def partTellsUptoRow : OpenClaim := { program := "ytnkapponcbgbhaa", sum := "f1c9f6715e5294a761f0c4e88b97ede8c475c586bda5a3e60b177ee49e6102cb", func := "pelican/pelicanlaw24.PartTells", spec := "partTells", inPlace := ["slices.overlaps[pelican/frame.slot]"], unfollowed := true, recurses := true, apart := false, narrowed := true }
def PartTellsUptoSaid : Prop := partTellsUptoRow.holds Try.pinned (OpenSpec.upto partTellsSpec)

/-- 'pelicanlaw24.PartUsers', WHERE WHAT IT READS IS OF BULK AT MOST 1048576: true; the input reads as it did. -/
def partUsersUptoRow : OpenClaim := { program := "ytnkapponcbgbhaa", sum := "f1c9f6715e5294a761f0c4e88b97ede8c475c586bda5a3e60b177ee49e6102cb", func := "pelican/pelicanlaw24.PartUsers", spec := "partUsers", inPlace := ["slices.overlaps[pelican/frame.slot]"], unfollowed := true, recurses := true, apart := false, narrowed := true }
def PartUsersUptoSaid : Prop := partUsersUptoRow.holds Try.pinned (OpenSpec.upto partUsersSpec)

/-- 'pelicanlaw24.PartAhead', WHERE WHAT IT READS IS OF BULK AT MOST 1048576: true; the input reads as it did. -/
def partAheadUptoRow : OpenClaim := { program := "ytnkapponcbgbhaa", sum := "f1c9f6715e5294a761f0c4e88b97ede8c475c586bda5a3e60b177ee49e6102cb", func := "pelican/pelicanlaw24.PartAhead", spec := "partAhead", inPlace := ["slices.overlaps[pelican/frame.slot]"], unfollowed := true, recurses := true, apart := false, narrowed := true }
def PartAheadUptoSaid : Prop := partAheadUptoRow.holds Try.pinned (OpenSpec.upto partAheadSpec)

/-- 'pelicanlaw24.PartStrip', WHERE WHAT IT READS IS OF BULK AT MOST 1048576: true; the input reads as it did. -/
def partStripUptoRow : OpenClaim := { program := "ytnkapponcbgbhaa", sum := "f1c9f6715e5294a761f0c4e88b97ede8c475c586bda5a3e60b177ee49e6102cb", func := "pelican/pelicanlaw24.PartStrip", spec := "partStrip", inPlace := ["slices.overlaps[pelican/frame.slot]"], unfollowed := true, recurses := true, apart := false, narrowed := true }
def PartStripUptoSaid : Prop := partStripUptoRow.holds Try.pinned (OpenSpec.upto partStripSpec)

/-- 'pelicanlaw24.PartBreaks', WHERE WHAT IT READS IS OF BULK AT MOST 1048576: true; the input reads as it did. -/
def partBreaksUptoRow : OpenClaim := { program := "ytnkapponcbgbhaa", sum := "f1c9f6715e5294a761f0c4e88b97ede8c475c586bda5a3e60b177ee49e6102cb", func := "pelican/pelicanlaw24.PartBreaks", spec := "partBreaks", inPlace := ["slices.overlaps[pelican/frame.slot]"], unfollowed := true, recurses := true, apart := false, narrowed := true }
def PartBreaksUptoSaid : Prop := partBreaksUptoRow.holds Try.pinned (OpenSpec.upto partBreaksSpec)

/-- 'pelicanlaw24.PartClear', WHERE WHAT IT READS IS OF BULK AT MOST 1048576: true; the input reads as it did. -/
def partClearUptoRow : OpenClaim := { program := "ytnkapponcbgbhaa", sum := "f1c9f6715e5294a761f0c4e88b97ede8c475c586bda5a3e60b177ee49e6102cb", func := "pelican/pelicanlaw24.PartClear", spec := "partClear", inPlace := ["slices.overlaps[pelican/frame.slot]"], unfollowed := true, recurses := true, apart := false, narrowed := true }
def PartClearUptoSaid : Prop := partClearUptoRow.holds Try.pinned (OpenSpec.upto partClearSpec)

end Rows
end Go.Proofs.Ytnkapponcbgbhaa
