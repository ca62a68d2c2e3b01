/- Sealing takes no heed of the tag that was there: the plain law. -/
import Derived.Test.YtgpggpbibdnfhaaDoorPgD
set_option linter.all false
set_option linter.unusedSimpArgs false
set_option linter.unusedVariables false
namespace Go.Proofs.YtgpggpbibdnfhaaDoor
open Go
attribute [local congr] bnd_cg bndO_cg br_cg
set_option maxHeartbeats 16000000 in
theorem turned_law (key : List Int) (f : Fra) (t : List Int) (hk : key.length = 32) (o : okF f) (ht : t.length = 32) (hr : ∀ x ∈ t, 0 ≤ x ∧ x ≤ 255) : sem tab 1000 15 4 [.agg [.blob 32 (uL key)], .agg (frC f), .agg [.blob 32 (uL t)]] [] = some (.b true, []) := by
  rw [sem_succ tab 1000 14 4 m4 rfl]
  have h8 : sem tab 1000 14 8 [] [] = some (.b true, []) := awakeS 0 0
  have s1 : sem tab 1000 14 12 [.agg [.blob 32 (uL key)], .agg (frC f)] [] = _ := V12t 0 2 key f f.tag hk o
  have s2 : sem tab 1000 14 12 [.agg [.blob 32 (uL key)], .agg (frC { f with tag := t })] [] = _ := V12t 0 2 key f t hk (okF_tag o t ht hr)
  have hu' := uz32.symm
  have zl2 : (uL z32).length = 32 := by rw [uL_len]; rfl
  have tl : (uL t).length = 32 := by rw [uL_len, ht]
  have fl : (uL f.tag).length = 32 := by rw [uL_len, o.tag]
  have kl : (uL key).length = 32 := by rw [uL_len, hk]
  cases c : canX f
  · rw [c, cond_false] at s1 s2
    have es := eSt_frn false zeF zeF z32_len z32_len
    rw [eqFr_self] at es
    obtain ⟨a1, a2, a3, a4, a5, a6, a7, a8, a9⟩ := f
    simp only [frC, zeF] at *
    generalize uL a9 = q at *
    generalize uL t = u at *
    generalize uL key = k at *
    generalize uL z32 = z at *
    cases e1 : decide (a1 ≥ 2) <;> cases e2 : decide (a1 ≤ 5) <;>
    simp -implicitDefEqProofs (maxSteps := 1000000) (disch := first | omega | rfl) [m4, h8, s1, s2, es, zl2, tl, fl, kl, e1, e2, hu', -List.reduceReplicate, boxO, KVl, KF, KS, getS, getO, gS, zipN, dropW, takeW, wds, stvs, sea, seaL, refs, refsL, refsEls, refsO, isPureEls, isPures, isPure, noExt, noExts, noExtEls, cellsL, ren, renL, renEls, keepO, keepS, keysO, refsS, refsOB, headC, setS, boxO, row, putW, putB, putB1, eNl, newOs, frz, renO, noExtO, zps, zp, two32, w64, -getElem?_pos, k_cnt, k_cnt0]
  · rw [c, cond_true] at s1 s2
    have es := eSt_frn false { f with tag := tX key f } { f with tag := tX key f } (tX_len _ _) (tX_len _ _)
    rw [eqFr_self] at es
    have kr := tagd_kind (can_pl c).2
    have xl : (uL (tX key f)).length = 32 := by rw [uL_len, tX_len]
    generalize tX key f = X at *
    obtain ⟨a1, a2, a3, a4, a5, a6, a7, a8, a9⟩ := f
    simp only [frC, zeF] at *
    generalize uL a9 = q at *
    generalize uL t = u at *
    generalize uL X = x at *
    generalize uL key = k at *
    generalize uL z32 = z at *
    have e1 : decide (a1 ≥ 2) = true := decide_eq_true kr.1
    have e2 : decide (a1 ≤ 5) = true := decide_eq_true kr.2
    simp -implicitDefEqProofs (maxSteps := 1000000) (disch := first | omega | rfl) [m4, h8, s1, s2, es, zl2, tl, fl, kl, xl, e1, e2, hu', -List.reduceReplicate, boxO, KVl, KF, KS, getS, getO, gS, zipN, dropW, takeW, wds, stvs, sea, seaL, refs, refsL, refsEls, refsO, isPureEls, isPures, isPure, noExt, noExts, noExtEls, cellsL, ren, renL, renEls, keepO, keepS, keysO, refsS, refsOB, headC, setS, boxO, row, putW, putB, putB1, eNl, newOs, frz, renO, noExtO, zps, zp, two32, w64, -getElem?_pos, k_cnt, k_cnt0]
theorem Pure.SealTurned (us : List PV) (h : TyAll Tryd.prog 8 [23, 26, 23] us) : ∃ N d out, sem tab N d 4 us [] = some (.b true, out) := by
  simp only [TyAll] at h
  obtain ⟨v0, _, rfl, h0, v1, _, rfl, h1, v2, _, rfl, h2, rfl⟩ := h
  obtain ⟨key, hk, _, rfl⟩ := id_of h0
  obtain ⟨f, hf, rfl⟩ := frame_of h1
  obtain ⟨t, ht, hr, rfl⟩ := id_of h2
  exact ⟨1000, 15, [], turned_law key f t hk hf ht hr⟩
end Go.Proofs.YtgpggpbibdnfhaaDoor
