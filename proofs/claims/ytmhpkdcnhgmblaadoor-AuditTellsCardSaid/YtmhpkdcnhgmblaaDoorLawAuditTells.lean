/- Any log may be, or not, has the room, and, with an entry more, urgent or not, or torn meanwhile, and any store opened, is what the document says, or why not; a new one, too; two are the same, or not: of any two logs, any entry, any store, and any numbers, for which the law's guards let them in. -/
import Derived.Test.YtmhpkdcnhgmblaaDoorRows
import Derived.Test.YtmhpkdcnhgmblaaDoorTie
import Derived.Test.YtmhpkdcnhgmblaaDoorCards
import Derived.Test.YtmhpkdcnhgmblaaDoorOk1
import Derived.Test.YtmhpkdcnhgmblaaDoorGlueA
import Derived.Test.YtmhpkdcnhgmblaaDoorPureAuditTells
import Derived.ProofKit
import Derived.OpenShut
import Derived.LaidMore
import Derived.Lay
import Derived.SevenTiedAt
import Derived.ShutString
import Derived.ChangeOld
import Derived.Below
import Derived.SizedLaws
set_option linter.all false
namespace Go.Proofs.YtmhpkdcnhgmblaaDoor.auditTells
open Go Go.ChangeShapes Go.WideShapes Go.ChangeAt Go.RowKit Go.Proofs.YtmhpkdcnhgmblaaDoor
set_option linter.unusedVariables false
theorem own : ownKnob Tryd.prog.godebug = none := by kernel_rfl
theorem laidOut : laidOutB Tryd.prog = true := by kernel_rfl
theorem globs_at {W : World} (h : laidMetH Tryd.prog Rows.auditTellsRow.laid W) : ∀ g xs, globs g = some xs → ∃ cs, rowAt W.heap g cs ∧ PCells W.heap (fun b => b < W.heap.size) cs 0 xs := by
  rw [MakeChecks.laidMetH_plain _ _ _ (by kernel_rfl)] at h
  obtain ⟨ps, h, _⟩ := h
  obtain ⟨h0, q, h⟩ := laid_ints (g := 0) (k := .u32) (zs := nFirst) rfl (by kernel_rfl) (by kernel_rfl) Tryd.underlying117 Tryd.underlying116 (by kernel_rfl) (by kernel_rfl) h
  obtain ⟨h1, _⟩ := laid_ints (g := 1) (k := .u32) (zs := nMore) rfl (by kernel_rfl) (by kernel_rfl) Tryd.underlying135 Tryd.underlying116 (by kernel_rfl) (by kernel_rfl) h
  intro g xs hg
  unfold globs at hg
  split at hg
  · injection hg with hg; subst hg; exact h0
  · injection hg with hg; subst hg; exact h1
  · cases hg
set_option maxRecDepth 100000 in
theorem lifted (os : Os) (started : os.Started) (H : Type) (enc : TypeId × Value → H) :
    ReturnsInHanded {} Tryd.checked os 3 .any (fun w args => (Rows.auditTellsSpec.pre enc Tryd.prog Tryd.f3 Rows.auditTellsRow.domain false w args ∧ laidMetH Tryd.prog Rows.auditTellsRow.laid w) ∧ sizedMet enc Tryd.prog Tryd.f3 (OpenSpec.ofChange Rows.auditTellsSpec) false w args)
      (Rows.auditTellsSpec.post enc Tryd.prog Tryd.f3 false true false false) := by
  refine returnsInHanded_of_change_and (C := Tryd.checked) (X := fun w _ => laidMetH Tryd.prog Rows.auditTellsRow.laid w) (fun _ _ _ hh h => h.of_heap hh) own started (by kernel_rfl) Tryd.func3
    (ChangeSpec.witness_shaped (enc := enc) (C := Tryd.checked) (os := os) (X := fun w _ => laidMetH Tryd.prog Rows.auditTellsRow.laid w) false (World.laidAll Tryd.prog os Rows.auditTellsRow.laid) #[.agg #[.int .i64 0, .slice none 0 0, .int .i64 0, .slice none 0 0, .int .u8 0, .int .u8 0, .int .u8 0, .int .u8 0, .int .u8 0, .int .u8 0, .int .u8 0, .int .u8 0, .int .u8 0, .int .u8 0, .int .u8 0, .int .u8 0, .int .u8 0, .int .u8 0, .int .u8 0, .int .u8 0, .int .u8 0, .int .u8 0, .int .u8 0, .int .u8 0, .int .u8 0, .int .u8 0, .int .u8 0, .int .u8 0, .int .u8 0, .int .u8 0, .int .u8 0, .int .u8 0, .int .u8 0, .int .u8 0, .int .u8 0, .int .u8 0], .agg #[.int .i64 0, .slice none 0 0, .int .i64 0, .slice none 0 0, .int .u8 0, .int .u8 0, .int .u8 0, .int .u8 0, .int .u8 0, .int .u8 0, .int .u8 0, .int .u8 0, .int .u8 0, .int .u8 0, .int .u8 0, .int .u8 0, .int .u8 0, .int .u8 0, .int .u8 0, .int .u8 0, .int .u8 0, .int .u8 0, .int .u8 0, .int .u8 0, .int .u8 0, .int .u8 0, .int .u8 0, .int .u8 0, .int .u8 0, .int .u8 0, .int .u8 0, .int .u8 0, .int .u8 0, .int .u8 0, .int .u8 0, .int .u8 0], .agg #[.int .i64 0, .int .i64 0, .int .i64 0, .int .i64 0, .int .u64 0, .int .u64 0, .int .i64 0, .int .i64 0, .int .i64 0], .bool false, .int .i64 0, .agg #[.int .i64 0, .slice none 0 0, .int .i64 0], .int .i64 0] 8 (World.laidAll_os _ _ _)
      (World.shaped_of_ZipB (by kernel_rfl) (by kernel_rfl)) (by kernel_rfl) (by kernel_rfl) (by kernel_rfl)
      (by rw [MakeChecks.laidMetH_plain _ _ _ (by kernel_rfl)]; exact laidMet_laidAll _ (by kernel_rfl) (by kernel_rfl))) ?_
  intro W base args ds gs before hval0 hW hc _ hL _
  have hW' := hW
  obtain ⟨p, q, hA0, hV, rfl, _, _⟩ := hW
  have hA : DataW.TrodAll enc Tryd.prog W 0 (fun _ => true) true [29, 29, 33, 4, 3, 24, 3] args.toList ds p := by have h := hA0; rw [Tryd.params3] at h; exact h
  obtain ⟨rfl, rfl⟩ := trodVars_none hV
  have hval : ∀ (j : Nat) t v, [29, 29, 33, 4, 3, 24, 3][j]? = some t → args.toList[j]? = some v → Value.okWide Tryd.prog W .any base t v := fun j t v ht hv => hval0 j t v (by rw [Tryd.params3]; simpa using ht) (by simpa using hv)
  obtain ⟨us, hT, hlen, hR⟩ := all_Ty (P := Tryd.prog) (d := 8) (fid := fun f => f) (glob := globs) [29, 29, 33, 4, 3, 24, 3] _ _ _ (by kernel_rfl) hval hA
  rw [Array.toArray_toList] at hR
  rw [Array.length_toList] at hlen
  obtain ⟨N, d, out, hsem⟩ := Pure.AuditTells us hT
  refine (law_calls tabled N d hlen hR (globs_at hL) hsem).mono fun e W' ⟨he, bel⟩ => ?_
  subst he
  have back := trodAll_back laidOut bel _ _ _ _ (by kernel_rfl) hA
  have hdl : ∃ d0 d1 d2 d3 d4 d5 d6, ds = [d0, d1, d2, d3, d4, d5, d6] := by
    have h := hA
    obtain ⟨v0, vs0, d0, ds0, p0, q0, _, rfl, _, _, h⟩ := trodAll_cons h
    obtain ⟨v1, vs1, d1, ds1, p1, q1, _, rfl, _, _, h⟩ := trodAll_cons h
    obtain ⟨v2, vs2, d2, ds2, p2, q2, _, rfl, _, _, h⟩ := trodAll_cons h
    obtain ⟨v3, vs3, d3, ds3, p3, q3, _, rfl, _, _, h⟩ := trodAll_cons h
    obtain ⟨v4, vs4, d4, ds4, p4, q4, _, rfl, _, _, h⟩ := trodAll_cons h
    obtain ⟨v5, vs5, d5, ds5, p5, q5, _, rfl, _, _, h⟩ := trodAll_cons h
    obtain ⟨v6, vs6, d6, ds6, p6, q6, _, rfl, _, _, h⟩ := trodAll_cons h
    obtain ⟨_, rfl, _⟩ := trodAll_nil h
    exact ⟨d0, d1, d2, d3, d4, d5, d6, rfl⟩
  obtain ⟨d0, d1, d2, d3, d4, d5, d6, rfl⟩ := hdl
  have back' : DataW.TrodAll enc Tryd.prog W' 0 (fun b => decide (b < W.heap.size)) true Tryd.f3.params.toList args.toList [d0, d1, d2, d3, d4, d5, d6] p := by rw [Tryd.params3]; exact back
  exact ⟨_, rfl, _, _, _, [], _, [], hW', trodAll_mk1 (shut_bool Tryd.underlying4 _), back', rfl, bel.frame _, fun h => by cases h⟩
theorem holds : Rows.AuditTellsSaid :=
  OpenClaim.holds_of_wide 3 Tryd.f3 rfl rfl rfl rfl rfl rfl rfl ⟨rfl, rfl, rfl, rfl, rfl⟩ rfl rfl rfl rfl rfl (by kernel_rfl) Tryd.func3 (by kernel_rfl)
    (of_decide_eq_true (by kernel_rfl)) (by unfold Func.isWrapper; first | (rw [if_pos (by decide +kernel)]; kernel_rfl) | (rw [if_neg (by decide +kernel)]; exact ⟨rfl, rfl⟩))
    (fun os started H enc _ => lifted os started H enc)
theorem card : Rows.AuditTellsCardSaid :=
  Claim7.holds_tied_plain_at .later [] [.data, .data] true (true, "c46a158536dd2015e7905ffd2accf0d5b6c491a2d4e2db1375382d3f73bae13f") false holds (fun _ h => by cases h) (by kernel_rfl) (fun _ h => by cases h) auditTells_row_tie rfl ⟨rfl, rfl⟩ (by kernel_rfl) rfl
    (fun f fn hf hfn => by
      obtain rfl : f = 3 := Option.some.inj ((show Tryd.prog.funcNamed "pelican/pelicanlaw12.AuditTells" = some 3 by kernel_rfl).symm.trans hf) |>.symm
      obtain rfl : fn = Tryd.f3 := (Option.some.inj (Tryd.func3.symm.trans hfn)).symm
      exact ⟨by kernel_rfl, fun j t ht => by
        rw [Tryd.params3] at ht
        have hm : t ∈ [29, 29, 33, 4, 3, 24, 3] := by simpa using Array.mem_of_getElem? ht
        have hall : ([29, 29, 33, 4, 3, 24, 3].all fun u => !Tryd.prog.wantsStandIn u) = true := by kernel_rfl
        exact (show Tryd.prog.wantsStandIn t = false by simpa using List.all_eq_true.1 hall t hm)⟩)
    (by kernel_rfl)
end Go.Proofs.YtmhpkdcnhgmblaaDoor.auditTells
namespace Go.Proofs.YtmhpkdcnhgmblaaDoor
theorem auditTells_holds : Go.Proofs.YtmhpkdcnhgmblaaDoor.Rows.AuditTellsCardSaid := auditTells.card
end Go.Proofs.YtmhpkdcnhgmblaaDoor
