/- Whose an event is goes by those ahead of it alone: of the first ones it is the beginning: of any users, any events, and any number of them, for which the law's guards let them in. -/
import Derived.Test.YtnkapponcbgbhaaRows
import Derived.Test.YtnkapponcbgbhaaOk1
import Derived.Test.YtnkapponcbgbhaaGlueA
import Derived.Test.YtnkapponcbgbhaaPurePartAhead
import Derived.ProofKit
import Derived.OpenShut
import Derived.LaidMore
import Derived.Lay
import Derived.SevenTiedAt
import Derived.ShutString
import Derived.ChangeOld
import Derived.Below
import Derived.SizedLaws
set_option linter.all false
namespace Go.Proofs.Ytnkapponcbgbhaa.partAhead
open Go Go.ChangeShapes Go.WideShapes Go.ChangeAt Go.RowKit Go.Proofs.Ytnkapponcbgbhaa
set_option linter.unusedVariables false
theorem own : ownKnob Try.prog.godebug = none := by kernel_rfl
theorem laidOut : laidOutB Try.prog = true := by kernel_rfl
theorem globs_at {W : World} : ∀ g xs, globs g = some xs → ∃ cs, rowAt W.heap g cs ∧ PCells W.heap (fun b => b < W.heap.size) cs 0 xs := by
  intro g xs hg
  cases hg
set_option maxRecDepth 100000 in
theorem lifted (os : Os) (started : os.Started) (H : Type) (enc : TypeId × Value → H) :
    ReturnsInHanded {} Try.checked os 5 .any (Rows.partAheadSpec.pre6 enc Try.prog Try.f5 Rows.partAheadRow.domain false)
      (Rows.partAheadSpec.post enc Try.prog Try.f5 false true false false) := by
  refine returnsInHanded_of_change (C := Try.checked) own started (by kernel_rfl) Try.func5 ?_ ?_
  · obtain ⟨w, tape, i, h1, h2, h3, h4, ⟨⟨h5, _⟩, h6⟩, h7⟩ := ChangeSpec.witness_shaped (enc := enc) (C := Try.checked) (os := os) (f := 5) (fn := Try.f5) (s := Rows.partAheadSpec) (conds := Rows.partAheadRow.domain) (apart := false) (X := fun _ _ => True) false (World.laidAll Try.prog os []) #[.slice none 0 0, .slice none 0 0, .int .i64 0] 8 (World.laidAll_os _ _ _)
      (World.shaped_of_ZipB (by kernel_rfl) (by kernel_rfl)) (by kernel_rfl) (by kernel_rfl) (by kernel_rfl) trivial
    exact ⟨w, tape, i, h1, h2, h3, h4, ⟨h5, h6⟩, h7⟩
  intro W base args ds gs before hval0 hW hc _
  have hW' := hW
  obtain ⟨p, q, hA0, hV, rfl, _, _⟩ := hW
  have hA : DataW.TrodAll enc Try.prog W 0 (fun _ => true) true [22, 23, 3] args.toList ds p := by have h := hA0; rw [Try.params5] at h; exact h
  obtain ⟨rfl, rfl⟩ := trodVars_none hV
  have hval : ∀ (j : Nat) t v, [22, 23, 3][j]? = some t → args.toList[j]? = some v → Value.okWide Try.prog W .any base t v := fun j t v ht hv => hval0 j t v (by rw [Try.params5]; simpa using ht) (by simpa using hv)
  obtain ⟨us, hT, hlen, hR⟩ := all_Ty (P := Try.prog) (d := 8) (fid := fun f => f) (glob := globs) [22, 23, 3] _ _ _ (by kernel_rfl) hval hA
  rw [Array.toArray_toList] at hR
  rw [Array.length_toList] at hlen
  obtain ⟨N, d, out, hsem⟩ := Pure.PartAhead us hT
  refine (law_calls tabled N d hlen hR globs_at hsem).mono fun e W' ⟨he, bel⟩ => ?_
  subst he
  have back := trodAll_back laidOut bel _ _ _ _ (by kernel_rfl) hA
  have hdl : ∃ d0 d1 d2, ds = [d0, d1, d2] := by
    have h := hA
    obtain ⟨v0, vs0, d0, ds0, p0, q0, _, rfl, _, _, h⟩ := trodAll_cons h
    obtain ⟨v1, vs1, d1, ds1, p1, q1, _, rfl, _, _, h⟩ := trodAll_cons h
    obtain ⟨v2, vs2, d2, ds2, p2, q2, _, rfl, _, _, h⟩ := trodAll_cons h
    obtain ⟨_, rfl, _⟩ := trodAll_nil h
    exact ⟨d0, d1, d2, rfl⟩
  obtain ⟨d0, d1, d2, rfl⟩ := hdl
  have back' : DataW.TrodAll enc Try.prog W' 0 (fun b => decide (b < W.heap.size)) true Try.f5.params.toList args.toList [d0, d1, d2] p := by rw [Try.params5]; exact back
  exact ⟨_, rfl, _, _, _, [], _, [], hW', trodAll_mk1 (shut_bool Try.underlying4 _), back', rfl, bel.frame _, fun h => by cases h⟩
theorem holds : Rows.PartAheadSaid :=
  OpenClaim.holds_of_wide 5 Try.f5 rfl rfl rfl rfl rfl rfl rfl ⟨rfl, rfl, rfl, rfl, rfl⟩ rfl rfl rfl rfl rfl (by kernel_rfl) Try.func5 (by kernel_rfl)
    (of_decide_eq_true (by kernel_rfl)) (by unfold Func.isWrapper; first | (rw [if_pos (by decide +kernel)]; kernel_rfl) | (rw [if_neg (by decide +kernel)]; exact ⟨rfl, rfl⟩))
    (fun os started H enc _ => lifted os started H enc)
end Go.Proofs.Ytnkapponcbgbhaa.partAhead
namespace Go.Proofs.Ytnkapponcbgbhaa
theorem partAhead_holds : Go.Proofs.Ytnkapponcbgbhaa.Rows.PartAheadSaid := partAhead.holds
end Go.Proofs.Ytnkapponcbgbhaa
