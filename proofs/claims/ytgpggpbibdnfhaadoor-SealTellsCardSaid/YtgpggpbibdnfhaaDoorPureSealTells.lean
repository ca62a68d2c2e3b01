/- A frame's tag, its sealed form, and whether it is right are the document's: the plain law. -/
import Derived.Test.YtgpggpbibdnfhaaDoorPgD
set_option linter.all false
set_option linter.unusedSimpArgs false
set_option linter.unusedVariables false
namespace Go.Proofs.YtgpggpbibdnfhaaDoor
open Go
attribute [local congr] bnd_cg bndO_cg br_cg
set_option maxHeartbeats 16000000 in
theorem stells_law (key : List Int) (f : Fra) (hk : key.length = 32) (hr : ∀ x ∈ key, 0 ≤ x ∧ x ≤ 255) (o : okF f) : sem tab 1000 15 5 [.agg [.blob 32 (uL key)], .agg (frC f)] [] = some (.b true, []) := by
  rw [sem_succ tab 1000 14 5 m5 rfl]
  have h8 : sem tab 1000 14 8 [] [] = some (.b true, []) := awakeS 0 0
  have s1 : sem tab 1000 14 13 [.agg [.blob 32 (uL key)], .agg (frC f)] [] = outT key f := V13s 0 3 key f hk o
  have s2 : sem tab 1000 14 14 [.agg [.blob 32 (uL key)], .agg (frC f)] [] = outT key f := R14s 0 4 key f hk hr o
  have s3 : sem tab 1000 14 12 [.agg [.blob 32 (uL key)], .agg (frC f)] [] = outSl key f := V12s 0 2 key f hk o
  have s4 : sem tab 1000 14 15 [.agg [.blob 32 (uL key)], .agg (frC f)] [] = outSl key f := R15s 0 3 key f hk hr o
  have s5 : sem tab 1000 14 9 [.agg [.blob 32 (uL key)], .agg (frC f)] [] = some (.i .i64 (chkX (tX key f) f), []) := V9s 0 1 key f hk o
  have s6 : sem tab 1000 14 16 [.agg [.blob 32 (uL key)], .agg (frC f)] [] = some (.i .i64 (chkX (tX key f) f), []) := R16s 0 3 key f hk hr o
  have hu' := uz32.symm
  have zl2 : (uL z32).length = 32 := by rw [uL_len]; rfl
  have fl : (uL f.tag).length = 32 := by rw [uL_len, o.tag]
  have kl : (uL key).length = 32 := by rw [uL_len, hk]
  generalize chkX (tX key f) f = w at *
  unfold outT at s1 s2
  unfold outSl at s3 s4
  cases c : canX f
  · rw [c, cond_false] at s1 s2 s3 s4
    have es := eSt_frn false zeF zeF z32_len z32_len
    rw [eqFr_self] at es
    have q1 := eqIs_uL z32 z32 rfl
    rw [decide_eq_true rfl] at q1
    obtain ⟨a1, a2, a3, a4, a5, a6, a7, a8, a9⟩ := f
    simp only [frC, zeF] at *
    generalize uL a9 = q at *
    generalize uL key = k at *
    generalize uL z32 = z at *
    simp -implicitDefEqProofs (maxSteps := 1000000) (disch := first | omega | rfl) [m5, h8, s1, s2, s3, s4, s5, s6, es, q1, zl2, fl, kl, hu', -List.reduceReplicate, boxO, KVl, KF, KS, getS, getO, gS, zipN, dropW, takeW, wds, stvs, sea, seaL, refs, refsL, refsEls, refsO, isPureEls, isPures, isPure, noExt, noExts, noExtEls, cellsL, ren, renL, renEls, keepO, keepS, keysO, refsS, refsOB, headC, setS, boxO, row, putW, putB, putB1, eNl, newOs, frz, renO, noExtO, zps, zp, two32, w64, -getElem?_pos, k_cnt, k_cnt0]
  · rw [c, cond_true] at s1 s2 s3 s4
    have es := eSt_frn false { f with tag := tX key f } { f with tag := tX key f } (tX_len _ _) (tX_len _ _)
    rw [eqFr_self] at es
    have q1 := eqIs_uL (tX key f) (tX key f) rfl
    rw [decide_eq_true rfl] at q1
    have xl : (uL (tX key f)).length = 32 := by rw [uL_len, tX_len]
    generalize tX key f = X at *
    obtain ⟨a1, a2, a3, a4, a5, a6, a7, a8, a9⟩ := f
    simp only [frC, zeF] at *
    generalize uL a9 = q at *
    generalize uL X = x at *
    generalize uL key = k at *
    generalize uL z32 = z at *
    simp -implicitDefEqProofs (maxSteps := 1000000) (disch := first | omega | rfl) [m5, h8, s1, s2, s3, s4, s5, s6, es, q1, zl2, fl, kl, xl, hu', -List.reduceReplicate, boxO, KVl, KF, KS, getS, getO, gS, zipN, dropW, takeW, wds, stvs, sea, seaL, refs, refsL, refsEls, refsO, isPureEls, isPures, isPure, noExt, noExts, noExtEls, cellsL, ren, renL, renEls, keepO, keepS, keysO, refsS, refsOB, headC, setS, boxO, row, putW, putB, putB1, eNl, newOs, frz, renO, noExtO, zps, zp, two32, w64, -getElem?_pos, k_cnt, k_cnt0]
theorem Pure.SealTells (us : List PV) (h : TyAll Tryd.prog 8 [23, 26] us) : ∃ N d out, sem tab N d 5 us [] = some (.b true, out) := by
  simp only [TyAll] at h
  obtain ⟨v0, _, rfl, h0, v1, _, rfl, h1, rfl⟩ := h
  obtain ⟨key, hk, hr, rfl⟩ := id_of h0
  obtain ⟨f, hf, rfl⟩ := frame_of h1
  exact ⟨1000, 15, [], stells_law key f hk hr hf⟩
end Go.Proofs.YtgpggpbibdnfhaaDoor
