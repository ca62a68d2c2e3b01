/- Behind a crash in the midst of adding the log has all that it had, and that entry just if all 62 bytes are kept; nothing else: of any log, any entry, and any number of bytes kept, for which the law's guards let them in. -/
import Derived.Test.YtmhpkdcnhgmblaaDoorRows
import Derived.Test.YtmhpkdcnhgmblaaDoorTie
import Derived.Test.YtmhpkdcnhgmblaaDoorCards
import Derived.Test.YtmhpkdcnhgmblaaDoorOk1
import Derived.Test.YtmhpkdcnhgmblaaDoorGlueA
import Derived.Test.YtmhpkdcnhgmblaaDoorPureAuditTorn
import Derived.ProofKit
import Derived.OpenShut
import Derived.LaidMore
import Derived.Lay
import Derived.SevenTiedAt
import Derived.ShutString
import Derived.ChangeOld
import Derived.Below
import Derived.SizedLaws
set_option linter.all false
namespace Go.Proofs.YtmhpkdcnhgmblaaDoor.auditTorn
open Go Go.ChangeShapes Go.WideShapes Go.ChangeAt Go.RowKit Go.Proofs.YtmhpkdcnhgmblaaDoor
set_option linter.unusedVariables false
theorem own : ownKnob Tryd.prog.godebug = none := by kernel_rfl
theorem laidOut : laidOutB Tryd.prog = true := by kernel_rfl
/-- The tables, where the call begins. -/
theorem globs_at {W : World} (h : laidMetH Tryd.prog Rows.auditTornRow.laid W) : ∀ g xs, globs g = some xs → ∃ cs, rowAt W.heap g cs ∧ PCells W.heap (fun b => b < W.heap.size) cs 0 xs := by
  rw [MakeChecks.laidMetH_plain _ _ _ (by kernel_rfl)] at h
  obtain ⟨ps, h, _⟩ := h
  obtain ⟨h0, q, h⟩ := laid_ints (g := 0) (k := .u32) (zs := nFirst) rfl (by kernel_rfl) (by kernel_rfl) Tryd.underlying117 Tryd.underlying116 (by kernel_rfl) (by kernel_rfl) h
  obtain ⟨h1, _⟩ := laid_ints (g := 1) (k := .u32) (zs := nMore) rfl (by kernel_rfl) (by kernel_rfl) Tryd.underlying135 Tryd.underlying116 (by kernel_rfl) (by kernel_rfl) h
  intro g xs hg
  unfold globs at hg
  split at hg
  · injection hg with hg; subst hg; exact h0
  · injection hg with hg; subst hg; exact h1
  · cases hg
set_option maxRecDepth 100000 in
theorem lifted (os : Os) (started : os.Started) (H : Type) (enc : TypeId × Value → H) :
    ReturnsInHanded {} Tryd.checked os 5 .any (fun w args => (Rows.auditTornSpec.pre enc Tryd.prog Tryd.f5 Rows.auditTornRow.domain false w args ∧ laidMetH Tryd.prog Rows.auditTornRow.laid w) ∧ sizedMet enc Tryd.prog Tryd.f5 (OpenSpec.ofChange Rows.auditTornSpec) false w args)
      (Rows.auditTornSpec.post enc Tryd.prog Tryd.f5 false true false false) := by
  refine returnsInHanded_of_change_and (C := Tryd.checked) (X := fun w _ => laidMetH Tryd.prog Rows.auditTornRow.laid w) (fun _ _ _ hh h => h.of_heap hh) own started (by kernel_rfl) Tryd.func5
    (ChangeSpec.witness_shaped (enc := enc) (C := Tryd.checked) (os := os) (X := fun w _ => laidMetH Tryd.prog Rows.auditTornRow.laid w) false (World.laidAll Tryd.prog os Rows.auditTornRow.laid) #[.agg #[.int .i64 0, .slice none 0 0, .int .i64 0, .slice none 0 0, .int .u8 0, .int .u8 0, .int .u8 0, .int .u8 0, .int .u8 0, .int .u8 0, .int .u8 0, .int .u8 0, .int .u8 0, .int .u8 0, .int .u8 0, .int .u8 0, .int .u8 0, .int .u8 0, .int .u8 0, .int .u8 0, .int .u8 0, .int .u8 0, .int .u8 0, .int .u8 0, .int .u8 0, .int .u8 0, .int .u8 0, .int .u8 0, .int .u8 0, .int .u8 0, .int .u8 0, .int .u8 0, .int .u8 0, .int .u8 0, .int .u8 0, .int .u8 0], .agg #[.int .i64 0, .int .i64 0, .int .i64 0, .int .i64 0, .int .u64 0, .int .u64 0, .int .i64 0, .int .i64 0, .int .i64 0], .int .i64 0] 8 (World.laidAll_os _ _ _)
      (World.shaped_of_ZipB (by kernel_rfl) (by kernel_rfl)) (by kernel_rfl) (by kernel_rfl) (by kernel_rfl)
      (by rw [MakeChecks.laidMetH_plain _ _ _ (by kernel_rfl)]; exact laidMet_laidAll _ (by kernel_rfl) (by kernel_rfl))) ?_
  intro W base args ds gs before hval0 hW hc _ hL _
  have hW' := hW
  obtain ⟨p, q, hA0, hV, rfl, _, _⟩ := hW
  have hA : DataW.TrodAll enc Tryd.prog W 0 (fun _ => true) true [29, 33, 3] args.toList ds p := by have h := hA0; rw [Tryd.params5] at h; exact h
  obtain ⟨rfl, rfl⟩ := trodVars_none hV
  have hval : ∀ (j : Nat) t v, [29, 33, 3][j]? = some t → args.toList[j]? = some v → Value.okWide Tryd.prog W .any base t v := fun j t v ht hv => hval0 j t v (by rw [Tryd.params5]; simpa using ht) (by simpa using hv)
  obtain ⟨us, hT, hlen, hR⟩ := all_Ty (P := Tryd.prog) (d := 8) (fid := fun f => f) (glob := globs) [29, 33, 3] _ _ _ (by kernel_rfl) hval hA
  rw [Array.toArray_toList] at hR
  rw [Array.length_toList] at hlen
  obtain ⟨N, d, out, hsem⟩ := Pure.AuditTorn us hT
  refine (law_calls tabled N d hlen hR (globs_at hL) hsem).mono fun e W' ⟨he, bel⟩ => ?_
  subst he
  have back := trodAll_back laidOut bel _ _ _ _ (by kernel_rfl) hA
  have hdl : ∃ d0 d1 d2, ds = [d0, d1, d2] := by
    have h := hA
    obtain ⟨v0, vs0, d0, ds0, p0, q0, _, rfl, _, _, h⟩ := trodAll_cons h
    obtain ⟨v1, vs1, d1, ds1, p1, q1, _, rfl, _, _, h⟩ := trodAll_cons h
    obtain ⟨v2, vs2, d2, ds2, p2, q2, _, rfl, _, _, h⟩ := trodAll_cons h
    obtain ⟨_, rfl, _⟩ := trodAll_nil h
    exact ⟨d0, d1, d2, rfl⟩
  obtain ⟨d0, d1, d2, rfl⟩ := hdl
  have back' : DataW.TrodAll enc Tryd.prog W' 0 (fun b => decide (b < W.heap.size)) true Tryd.f5.params.toList args.toList [d0, d1, d2] p := by rw [Tryd.params5]; exact back
  exact ⟨_, rfl, _, _, _, [], _, [], hW', trodAll_mk1 (shut_bool Tryd.underlying4 _), back', rfl, bel.frame _, fun h => by cases h⟩
theorem holds : Rows.AuditTornSaid :=
  OpenClaim.holds_of_wide 5 Tryd.f5 rfl rfl rfl rfl rfl rfl rfl ⟨rfl, rfl, rfl, rfl, rfl⟩ rfl rfl rfl rfl rfl (by kernel_rfl) Tryd.func5 (by kernel_rfl)
    (of_decide_eq_true (by kernel_rfl)) (by unfold Func.isWrapper; first | (rw [if_pos (by decide +kernel)]; kernel_rfl) | (rw [if_neg (by decide +kernel)]; exact ⟨rfl, rfl⟩))
    (fun os started H enc _ => lifted os started H enc)
theorem card : Rows.AuditTornCardSaid :=
  Claim7.holds_tied_plain_at .later [] [.data, .data] true (true, "c46a158536dd2015e7905ffd2accf0d5b6c491a2d4e2db1375382d3f73bae13f") false holds (fun _ h => by cases h) (by kernel_rfl) (fun _ h => by cases h) auditTorn_row_tie rfl ⟨rfl, rfl⟩ (by kernel_rfl) rfl
    (fun f fn hf hfn => by
      obtain rfl : f = 5 := Option.some.inj ((show Tryd.prog.funcNamed "pelican/pelicanlaw12.AuditTorn" = some 5 by kernel_rfl).symm.trans hf) |>.symm
      obtain rfl : fn = Tryd.f5 := (Option.some.inj (Tryd.func5.symm.trans hfn)).symm
      exact ⟨by kernel_rfl, fun j t ht => by
        rw [Tryd.params5] at ht
        have hm : t ∈ [29, 33, 3] := by simpa using Array.mem_of_getElem? ht
        have hall : ([29, 33, 3].all fun u => !Tryd.prog.wantsStandIn u) = true := by kernel_rfl
        exact (show Tryd.prog.wantsStandIn t = false by simpa using List.all_eq_true.1 hall t hm)⟩)
    (by kernel_rfl)
end Go.Proofs.YtmhpkdcnhgmblaaDoor.auditTorn
namespace Go.Proofs.YtmhpkdcnhgmblaaDoor
/-- The card, under a short name. -/
theorem auditTorn_holds : Go.Proofs.YtmhpkdcnhgmblaaDoor.Rows.AuditTornCardSaid := auditTorn.card
end Go.Proofs.YtmhpkdcnhgmblaaDoor
