/- What is sealed is read again, and right by its own tag alone: the plain law. -/
import Derived.Test.YtgpggpbibdnfhaaDoorPgD
set_option linter.all false
set_option linter.unusedSimpArgs false
set_option linter.unusedVariables false
namespace Go.Proofs.YtgpggpbibdnfhaaDoor
open Go
attribute [local congr] bnd_cg bndO_cg br_cg
set_option maxHeartbeats 16000000 in
theorem sback_law (key : List Int) (f : Fra) (t : List Int) (hk : key.length = 32) (o : okF f) (ht : t.length = 32) (hr : ∀ x ∈ t, 0 ≤ x ∧ x ≤ 255) : sem tab 1000 15 7 [.agg [.blob 32 (uL key)], .agg (frC f), .agg [.blob 32 (uL t)]] [] = some (.b true, []) := by
  rw [sem_succ tab 1000 14 7 m7 rfl]
  have h8 : sem tab 1000 14 8 [] [] = some (.b true, []) := awakeS 0 0
  have s1 : sem tab 1000 14 12 [.agg [.blob 32 (uL key)], .agg (frC f)] [] = _ := V12t 0 2 key f f.tag hk o
  have hu' := uz32.symm
  have zl2 : (uL z32).length = 32 := by rw [uL_len]; rfl
  have tl : (uL t).length = 32 := by rw [uL_len, ht]
  have kl : (uL key).length = 32 := by rw [uL_len, hk]
  cases c : canX f
  · rw [c, cond_false] at s1
    have k1 : sem tab 1000 14 9 [.agg [.blob 32 (uL key)], .agg (frC f)] [] = _ := V9s 0 1 key f hk o
    unfold chkX at k1
    rw [c, cond_false] at k1
    have es := eSt_frn false zeF zeF z32_len z32_len
    rw [eqFr_self] at es
    obtain ⟨a1, a2, a3, a4, a5, a6, a7, a8, a9⟩ := f
    simp only [frC, zeF] at *
    generalize uL a9 = q at *
    generalize uL t = u at *
    generalize uL key = k at *
    generalize uL z32 = z at *
    simp -implicitDefEqProofs (maxSteps := 1000000) (disch := first | omega | rfl) [m7, h8, s1, k1, es, zl2, tl, kl, hu', -List.reduceReplicate, boxO, KVl, KF, KS, getS, getO, gS, zipN, dropW, takeW, wds, stvs, sea, seaL, refs, refsL, refsEls, refsO, isPureEls, isPures, isPure, noExt, noExts, noExtEls, cellsL, ren, renL, renEls, keepO, keepS, keysO, refsS, refsOB, headC, setS, boxO, row, putW, putB, putB1, eNl, newOs, frz, renO, noExtO, zps, zp, two32, w64, -getElem?_pos, k_cnt, k_cnt0]
  · rw [c, cond_true] at s1
    have oX := okF_tag o (tX key f) (tX_len _ _) (tX_range _ _)
    have cX := can_tag f (tX key f)
    rw [c] at cX
    have pX := (can_pl cX).1
    have s2 : sem tab 1000 14 12 [.agg [.blob 32 (uL key)], .agg (frC { f with tag := tX key f })] [] = _ := V12t 0 2 key f (tX key f) hk oX
    rw [c, cond_true] at s2
    have k1 : sem tab 1000 14 9 [.agg [.blob 32 (uL key)], .agg (frC { f with tag := tX key f })] [] = _ := V9t 0 1 key f (tX key f) hk oX
    rw [c, cond_true, decide_eq_true rfl, cond_true] at k1
    have k2 : sem tab 1000 14 9 [.agg [.blob 32 (uL key)], .agg (frC { f with tag := t })] [] = _ := V9t 0 1 key f t hk (okF_tag o t ht hr)
    rw [c, cond_true] at k2
    have p1 : sem tab 1000 14 17 [.agg (frC { f with tag := tX key f })] [] = _ := V10 900 9 { f with tag := tX key f } oX
    rw [(plainF_iff _).2 pX, cond_true] at p1
    have ln := putF_len { f with tag := tX key f } pX.kind oX.tag
    have sl := szF_le f.kind
    have r1 : sem tab 1000 14 18 [.l false (byL (putF { f with tag := tX key f }))] [] = _ := V11 0 8 (putF { f with tag := tX key f }) (by rw [ln]; simp only; omega) (putF_range _ oX.tagr)
    unfold outRd at r1
    rw [good_put _ pX oX, seem_put _ pX oX, cond_true] at r1
    unfold okR at r1
    have tp := take_put (putF { f with tag := tX key f })
    have lp := byL_len (putF { f with tag := tX key f })
    have es := eSt_frn false { f with tag := tX key f } { f with tag := tX key f } (tX_len _ _) (tX_len _ _)
    rw [eqFr_self] at es
    have xl : (uL (tX key f)).length = 32 := by rw [uL_len, tX_len]
    have q1 := eqIs_uL t (tX key f) (by rw [tX_len, ht])
    have q2 : decide (tX key f = t) = decide (t = tX key f) := by
      by_cases h : tX key f = t
      · rw [h]
      · rw [decide_eq_false h, decide_eq_false fun e => h e.symm]
    rw [q2] at k2
    clear ln sl cX pX oX c q2
    generalize byL (putF { f with tag := tX key f }) = y at *
    generalize (putF { f with tag := tX key f }).length = n at *
    generalize decide (t = tX key f) = e at *
    generalize tX key f = X at *
    obtain ⟨a1, a2, a3, a4, a5, a6, a7, a8, a9⟩ := f
    simp only [frC, zeF, row] at *
    generalize uL a9 = q at *
    generalize uL t = u at *
    generalize uL X = x at *
    generalize uL key = k at *
    generalize uL z32 = z at *
    cases e <;> simp only [cond_true, cond_false] at k2 <;>
    simp -implicitDefEqProofs (maxSteps := 1000000) (disch := first | omega | rfl) [m7, h8, s1, s2, k1, k2, p1, r1, tp, lp, es, q1, zl2, tl, kl, xl, hu', -List.reduceReplicate, boxO, KVl, KF, KS, getS, getO, gS, zipN, dropW, takeW, wds, stvs, sea, seaL, refs, refsL, refsEls, refsO, isPureEls, isPures, isPure, noExt, noExts, noExtEls, cellsL, ren, renL, renEls, keepO, keepS, keysO, refsS, refsOB, headC, setS, boxO, row, putW, putB, putB1, eNl, newOs, frz, renO, noExtO, zps, zp, two32, w64, -getElem?_pos, k_cnt, k_cnt0]
theorem Pure.SealBack (us : List PV) (h : TyAll Tryd.prog 8 [23, 26, 23] us) : ∃ N d out, sem tab N d 7 us [] = some (.b true, out) := by
  simp only [TyAll] at h
  obtain ⟨v0, _, rfl, h0, v1, _, rfl, h1, v2, _, rfl, h2, rfl⟩ := h
  obtain ⟨key, hk, _, rfl⟩ := id_of h0
  obtain ⟨f, hf, rfl⟩ := frame_of h1
  obtain ⟨t, ht, hr, rfl⟩ := id_of h2
  exact ⟨1000, 15, [], sback_law key f t hk hf ht hr⟩
end Go.Proofs.YtgpggpbibdnfhaaDoor
