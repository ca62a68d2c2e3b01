/- The law SealTells. -/
import Derived.Test.YtgpggpbibdnfhaaDoorRows
import Derived.Test.YtgpggpbibdnfhaaDoorTie
import Derived.Test.YtgpggpbibdnfhaaDoorCards
import Derived.Test.YtgpggpbibdnfhaaDoorOk1
import Derived.Test.YtgpggpbibdnfhaaDoorGlueA
import Derived.Test.YtgpggpbibdnfhaaDoorPureSealTells
import Derived.ProofKit
import Derived.OpenShut
import Derived.LaidMore
import Derived.Lay
import Derived.SevenTiedAt
import Derived.ShutString
import Derived.ChangeOld
import Derived.Below
import Derived.SizedLaws
set_option linter.all false
namespace Go.Proofs.YtgpggpbibdnfhaaDoor.sealTells
open Go Go.ChangeShapes Go.WideShapes Go.ChangeAt Go.RowKit Go.Proofs.YtgpggpbibdnfhaaDoor
set_option linter.unusedVariables false
theorem own : ownKnob Tryd.prog.godebug = none := by kernel_rfl
theorem laidOut : laidOutB Tryd.prog = true := by kernel_rfl
/-- The tables, where the call begins. -/
theorem globs_at {W : World} (h : laidMetH Tryd.prog Rows.sealTellsRow.laid W) : ∀ g xs, globs g = some xs → ∃ cs, rowAt W.heap g cs ∧ PCells W.heap (fun b => b < W.heap.size) cs 0 xs := by
  rw [MakeChecks.laidMetH_plain _ _ _ (by kernel_rfl)] at h
  obtain ⟨ps, h, _⟩ := h
  obtain ⟨h0, q, h⟩ := laid_ints (g := 0) (k := .u32) (zs := nFirst) rfl (by kernel_rfl) (by kernel_rfl) Tryd.underlying49 Tryd.underlying48 (by kernel_rfl) (by kernel_rfl) h
  obtain ⟨h1, _⟩ := laid_ints (g := 1) (k := .u32) (zs := nMore) rfl (by kernel_rfl) (by kernel_rfl) Tryd.underlying95 Tryd.underlying48 (by kernel_rfl) (by kernel_rfl) h
  intro g xs hg
  unfold globs at hg
  split at hg
  · injection hg with hg; subst hg; exact h0
  · injection hg with hg; subst hg; exact h1
  · cases hg
set_option maxRecDepth 100000 in
theorem lifted (os : Os) (started : os.Started) (H : Type) (enc : TypeId × Value → H) :
    ReturnsInHanded {} Tryd.checked os 5 .any (fun w args => (Rows.sealTellsSpec.pre enc Tryd.prog Tryd.f5 Rows.sealTellsRow.domain false w args ∧ laidMetH Tryd.prog Rows.sealTellsRow.laid w) ∧ sizedMet enc Tryd.prog Tryd.f5 (OpenSpec.ofChange Rows.sealTellsSpec) false w args)
      (Rows.sealTellsSpec.post enc Tryd.prog Tryd.f5 false true false false) := by
  refine returnsInHanded_of_change_and (C := Tryd.checked) (X := fun w _ => laidMetH Tryd.prog Rows.sealTellsRow.laid w) (fun _ _ _ hh h => h.of_heap hh) own started (by kernel_rfl) Tryd.func5
    (ChangeSpec.witness_shaped (enc := enc) (C := Tryd.checked) (os := os) (X := fun w _ => laidMetH Tryd.prog Rows.sealTellsRow.laid w) false (World.laidAll Tryd.prog os Rows.sealTellsRow.laid) #[.agg #[.int .u8 0, .int .u8 0, .int .u8 0, .int .u8 0, .int .u8 0, .int .u8 0, .int .u8 0, .int .u8 0, .int .u8 0, .int .u8 0, .int .u8 0, .int .u8 0, .int .u8 0, .int .u8 0, .int .u8 0, .int .u8 0, .int .u8 0, .int .u8 0, .int .u8 0, .int .u8 0, .int .u8 0, .int .u8 0, .int .u8 0, .int .u8 0, .int .u8 0, .int .u8 0, .int .u8 0, .int .u8 0, .int .u8 0, .int .u8 0, .int .u8 0, .int .u8 0], .agg #[.int .i64 0, .int .i64 0, .int .u64 0, .int .u64 0, .int .i64 0, .int .u64 0, .int .i64 0, .int .i64 0, .int .u8 0, .int .u8 0, .int .u8 0, .int .u8 0, .int .u8 0, .int .u8 0, .int .u8 0, .int .u8 0, .int .u8 0, .int .u8 0, .int .u8 0, .int .u8 0, .int .u8 0, .int .u8 0, .int .u8 0, .int .u8 0, .int .u8 0, .int .u8 0, .int .u8 0, .int .u8 0, .int .u8 0, .int .u8 0, .int .u8 0, .int .u8 0, .int .u8 0, .int .u8 0, .int .u8 0, .int .u8 0, .int .u8 0, .int .u8 0, .int .u8 0, .int .u8 0]] 8 (World.laidAll_os _ _ _)
      (World.shaped_of_ZipB (by kernel_rfl) (by kernel_rfl)) (by kernel_rfl) (by kernel_rfl) (by kernel_rfl)
      (by rw [MakeChecks.laidMetH_plain _ _ _ (by kernel_rfl)]; exact laidMet_laidAll _ (by kernel_rfl) (by kernel_rfl))) ?_
  intro W base args ds gs before hval0 hW hc _ hL _
  have hW' := hW
  obtain ⟨p, q, hA0, hV, rfl, _, _⟩ := hW
  have hA : DataW.TrodAll enc Tryd.prog W 0 (fun _ => true) true [23, 26] args.toList ds p := by have h := hA0; rw [Tryd.params5] at h; exact h
  obtain ⟨rfl, rfl⟩ := trodVars_none hV
  have hval : ∀ (j : Nat) t v, [23, 26][j]? = some t → args.toList[j]? = some v → Value.okWide Tryd.prog W .any base t v := fun j t v ht hv => hval0 j t v (by rw [Tryd.params5]; simpa using ht) (by simpa using hv)
  obtain ⟨us, hT, hlen, hR⟩ := all_Ty (P := Tryd.prog) (d := 8) (fid := fun f => f) (glob := globs) [23, 26] _ _ _ (by kernel_rfl) hval hA
  rw [Array.toArray_toList] at hR
  rw [Array.length_toList] at hlen
  obtain ⟨N, d, out, hsem⟩ := Pure.SealTells us hT
  refine (law_calls tabled N d hlen hR (globs_at hL) hsem).mono fun e W' ⟨he, bel⟩ => ?_
  subst he
  have back := trodAll_back laidOut bel _ _ _ _ (by kernel_rfl) hA
  have hdl : ∃ d0 d1, ds = [d0, d1] := by
    have h := hA
    obtain ⟨v0, vs0, d0, ds0, p0, q0, _, rfl, _, _, h⟩ := trodAll_cons h
    obtain ⟨v1, vs1, d1, ds1, p1, q1, _, rfl, _, _, h⟩ := trodAll_cons h
    obtain ⟨_, rfl, _⟩ := trodAll_nil h
    exact ⟨d0, d1, rfl⟩
  obtain ⟨d0, d1, rfl⟩ := hdl
  have back' : DataW.TrodAll enc Tryd.prog W' 0 (fun b => decide (b < W.heap.size)) true Tryd.f5.params.toList args.toList [d0, d1] p := by rw [Tryd.params5]; exact back
  exact ⟨_, rfl, _, _, _, [], _, [], hW', trodAll_mk1 (shut_bool Tryd.underlying4 _), back', rfl, bel.frame _, fun h => by cases h⟩
theorem holds : Rows.SealTellsSaid :=
  OpenClaim.holds_of_wide 5 Tryd.f5 rfl rfl rfl rfl rfl rfl rfl ⟨rfl, rfl, rfl, rfl, rfl⟩ rfl rfl rfl rfl rfl (by kernel_rfl) Tryd.func5 (by kernel_rfl)
    (of_decide_eq_true (by kernel_rfl)) (by unfold Func.isWrapper; first | (rw [if_pos (by decide +kernel)]; kernel_rfl) | (rw [if_neg (by decide +kernel)]; exact ⟨rfl, rfl⟩))
    (fun os started H enc _ => lifted os started H enc)
theorem card : Rows.SealTellsCardSaid :=
  Claim7.holds_tied_plain_at .later [] [.data, .data] true (true, "d30179282e177f245a8da44e5d38d0541582b1ef23a79bddf5c1a321cba5fa14") false holds (fun _ h => by cases h) (by kernel_rfl) (fun _ h => by cases h) sealTells_row_tie rfl ⟨rfl, rfl⟩ (by kernel_rfl) rfl
    (fun f fn hf hfn => by
      obtain rfl : f = 5 := Option.some.inj ((show Tryd.prog.funcNamed "pelican/pelicanlaw19.SealTells" = some 5 by kernel_rfl).symm.trans hf) |>.symm
      obtain rfl : fn = Tryd.f5 := (Option.some.inj (Tryd.func5.symm.trans hfn)).symm
      exact ⟨by kernel_rfl, fun j t ht => by
        rw [Tryd.params5] at ht
        have hm : t ∈ [23, 26] := by simpa using Array.mem_of_getElem? ht
        have hall : ([23, 26].all fun u => !Tryd.prog.wantsStandIn u) = true := by kernel_rfl
        exact (show Tryd.prog.wantsStandIn t = false by simpa using List.all_eq_true.1 hall t hm)⟩)
    (by kernel_rfl)
end Go.Proofs.YtgpggpbibdnfhaaDoor.sealTells
namespace Go.Proofs.YtgpggpbibdnfhaaDoor
/-- The card, under a short name. -/
theorem sealTells_holds : Go.Proofs.YtgpggpbibdnfhaaDoor.Rows.SealTellsCardSaid := sealTells.card
end Go.Proofs.YtgpggpbibdnfhaaDoor
