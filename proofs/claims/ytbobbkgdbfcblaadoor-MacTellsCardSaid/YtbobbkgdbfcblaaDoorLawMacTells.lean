/- Blocks, tags, keys are what the document says. -/
import Derived.Test.YtbobbkgdbfcblaaDoorRows
import Derived.Test.YtbobbkgdbfcblaaDoorTie
import Derived.Test.YtbobbkgdbfcblaaDoorCards
import Derived.Test.YtbobbkgdbfcblaaDoorOk1
import Derived.Test.YtbobbkgdbfcblaaDoorGlueA
import Derived.Test.YtbobbkgdbfcblaaDoorPureMacTells
import Derived.ProofKit
import Derived.OpenShut
import Derived.LaidMore
import Derived.Lay
import Derived.SevenTiedAt
import Derived.ShutString
import Derived.ChangeOld
import Derived.Below
import Derived.SizedLaws
set_option linter.all false
namespace Go.Proofs.YtbobbkgdbfcblaaDoor.macTells
open Go Go.ChangeShapes Go.WideShapes Go.ChangeAt Go.RowKit Go.Proofs.YtbobbkgdbfcblaaDoor
set_option linter.unusedVariables false
theorem own : ownKnob Tryd.prog.godebug = none := by kernel_rfl
theorem laidOut : laidOutB Tryd.prog = true := by kernel_rfl
/-- The tables, where the call begins. -/
theorem globs_at {W : World} (h : laidMetH Tryd.prog Rows.macTellsRow.laid W) : ∀ g xs, globs g = some xs → ∃ cs, rowAt W.heap g cs ∧ PCells W.heap (fun b => b < W.heap.size) cs 0 xs := by
  rw [MakeChecks.laidMetH_plain _ _ _ (by kernel_rfl)] at h
  obtain ⟨ps, h, _⟩ := h
  obtain ⟨h0, q, h⟩ := laid_ints (g := 0) (k := .u32) (zs := nFirst) rfl (by kernel_rfl) (by kernel_rfl) Tryd.underlying23 Tryd.underlying22 (by kernel_rfl) (by kernel_rfl) h
  obtain ⟨h1, _⟩ := laid_ints (g := 1) (k := .u32) (zs := nMore) rfl (by kernel_rfl) (by kernel_rfl) Tryd.underlying63 Tryd.underlying22 (by kernel_rfl) (by kernel_rfl) h
  intro g xs hg
  unfold globs at hg
  split at hg
  · injection hg with hg; subst hg; exact h0
  · injection hg with hg; subst hg; exact h1
  · cases hg
set_option maxRecDepth 100000 in
theorem lifted (os : Os) (started : os.Started) (H : Type) (enc : TypeId × Value → H) :
    ReturnsInHanded {} Tryd.checked os 13 .any (fun w args => (Rows.macTellsSpec.pre enc Tryd.prog Tryd.f13 Rows.macTellsRow.domain false w args ∧ laidMetH Tryd.prog Rows.macTellsRow.laid w) ∧ sizedMet enc Tryd.prog Tryd.f13 (OpenSpec.ofChange Rows.macTellsSpec) false w args)
      (Rows.macTellsSpec.post enc Tryd.prog Tryd.f13 false true false false) := by
  refine returnsInHanded_of_change_and (C := Tryd.checked) (X := fun w _ => laidMetH Tryd.prog Rows.macTellsRow.laid w) (fun _ _ _ hh h => h.of_heap hh) own started (by kernel_rfl) Tryd.func13
    (ChangeSpec.witness_shaped (enc := enc) (C := Tryd.checked) (os := os) (X := fun w _ => laidMetH Tryd.prog Rows.macTellsRow.laid w) false (World.laidAll Tryd.prog os Rows.macTellsRow.laid) #[.slice none 0 0, .slice none 0 0, .slice none 0 0, .string ByteArray.empty] 8 (World.laidAll_os _ _ _)
      (World.shaped_of_ZipB (by kernel_rfl) (by kernel_rfl)) (by kernel_rfl) (by kernel_rfl) (by kernel_rfl)
      (by rw [MakeChecks.laidMetH_plain _ _ _ (by kernel_rfl)]; exact laidMet_laidAll _ (by kernel_rfl) (by kernel_rfl))) ?_
  intro W base args ds gs before hval0 hW hc _ hL _
  have hW' := hW
  obtain ⟨p, q, hA0, hV, rfl, _, _⟩ := hW
  have hA : DataW.TrodAll enc Tryd.prog W 0 (fun _ => true) true [24, 24, 24, 9] args.toList ds p := by have h := hA0; rw [Tryd.params13] at h; exact h
  obtain ⟨rfl, rfl⟩ := trodVars_none hV
  have hval : ∀ (j : Nat) t v, [24, 24, 24, 9][j]? = some t → args.toList[j]? = some v → Value.okWide Tryd.prog W .any base t v := fun j t v ht hv => hval0 j t v (by rw [Tryd.params13]; simpa using ht) (by simpa using hv)
  obtain ⟨us, hT, hlen, hR⟩ := all_Ty (P := Tryd.prog) (d := 8) (fid := fun f => f) (glob := globs) [24, 24, 24, 9] _ _ _ (by kernel_rfl) hval hA
  rw [Array.toArray_toList] at hR
  rw [Array.length_toList] at hlen
  obtain ⟨N, d, out, hsem⟩ := Pure.MacTells us hT
  refine (law_calls tabled N d hlen hR (globs_at hL) hsem).mono fun e W' ⟨he, bel⟩ => ?_
  subst he
  have back := trodAll_back laidOut bel _ _ _ _ (by kernel_rfl) hA
  have hdl : ∃ d0 d1 d2 d3, ds = [d0, d1, d2, d3] := by
    have h := hA
    obtain ⟨v0, vs0, d0, ds0, p0, q0, _, rfl, _, _, h⟩ := trodAll_cons h
    obtain ⟨v1, vs1, d1, ds1, p1, q1, _, rfl, _, _, h⟩ := trodAll_cons h
    obtain ⟨v2, vs2, d2, ds2, p2, q2, _, rfl, _, _, h⟩ := trodAll_cons h
    obtain ⟨v3, vs3, d3, ds3, p3, q3, _, rfl, _, _, h⟩ := trodAll_cons h
    obtain ⟨_, rfl, _⟩ := trodAll_nil h
    exact ⟨d0, d1, d2, d3, rfl⟩
  obtain ⟨d0, d1, d2, d3, rfl⟩ := hdl
  have back' : DataW.TrodAll enc Tryd.prog W' 0 (fun b => decide (b < W.heap.size)) true Tryd.f13.params.toList args.toList [d0, d1, d2, d3] p := by rw [Tryd.params13]; exact back
  exact ⟨_, rfl, _, _, _, [], _, [], hW', trodAll_mk1 (shut_bool Tryd.underlying4 _), back', rfl, bel.frame _, fun h => by cases h⟩
theorem holds : Rows.MacTellsSaid :=
  OpenClaim.holds_of_wide 13 Tryd.f13 rfl rfl rfl rfl rfl rfl rfl ⟨rfl, rfl, rfl, rfl, rfl⟩ rfl rfl rfl rfl rfl (by kernel_rfl) Tryd.func13 (by kernel_rfl)
    (of_decide_eq_true (by kernel_rfl)) (by unfold Func.isWrapper; first | (rw [if_pos (by decide +kernel)]; kernel_rfl) | (rw [if_neg (by decide +kernel)]; exact ⟨rfl, rfl⟩))
    (fun os started H enc _ => lifted os started H enc)
theorem card : Rows.MacTellsCardSaid :=
  Claim7.holds_tied_plain_at .later [] [.data, .data] true (true, "0ca8aa9b9b4145f13e68960da70291939e1cffac74ed7ad7c4fc5feaf25e59c1") false holds (fun _ h => by cases h) (by kernel_rfl) (fun _ h => by cases h) macTells_row_tie rfl ⟨rfl, rfl⟩ (by kernel_rfl) rfl
    (fun f fn hf hfn => by
      obtain rfl : f = 13 := Option.some.inj ((show Tryd.prog.funcNamed "pelican/pelicanlaw02.MacTells" = some 13 by kernel_rfl).symm.trans hf) |>.symm
      obtain rfl : fn = Tryd.f13 := (Option.some.inj (Tryd.func13.symm.trans hfn)).symm
      exact ⟨by kernel_rfl, fun j t ht => by
        rw [Tryd.params13] at ht
        have hm : t ∈ [24, 24, 24, 9] := by simpa using Array.mem_of_getElem? ht
        have hall : ([24, 24, 24, 9].all fun u => !Tryd.prog.wantsStandIn u) = true := by kernel_rfl
        exact (show Tryd.prog.wantsStandIn t = false by simpa using List.all_eq_true.1 hall t hm)⟩)
    (by kernel_rfl)
end Go.Proofs.YtbobbkgdbfcblaaDoor.macTells
namespace Go.Proofs.YtbobbkgdbfcblaaDoor
/-- The card, under a short name. -/
theorem macTells_holds : Go.Proofs.YtbobbkgdbfcblaaDoor.Rows.MacTellsCardSaid := macTells.card
end Go.Proofs.YtbobbkgdbfcblaaDoor
