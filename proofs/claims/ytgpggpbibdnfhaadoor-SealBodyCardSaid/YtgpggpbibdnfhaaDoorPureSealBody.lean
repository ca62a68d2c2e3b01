/- A tag speaks of the body alone: the plain law. -/
import Derived.Test.YtgpggpbibdnfhaaDoorPgD
set_option linter.all false
set_option linter.unusedSimpArgs false
set_option linter.unusedVariables false
namespace Go.Proofs.YtgpggpbibdnfhaaDoor
open Go
attribute [local congr] bnd_cg bndO_cg br_cg
set_option maxHeartbeats 16000000 in
theorem sbody_law (key : List Int) (f g : Fra) (hk : key.length = 32) (o : okF f) (og : okF g) : sem tab 1000 15 6 [.agg [.blob 32 (uL key)], .agg (frC f), .agg (frC g)] [] = some (.b true, []) := by
  rw [sem_succ tab 1000 14 6 m6 rfl]
  have h8 : sem tab 1000 14 8 [] [] = some (.b true, []) := awakeS 0 0
  have s1 : sem tab 1000 14 13 [.agg [.blob 32 (uL key)], .agg (frC f)] [] = outT key f := V13s 0 3 key f hk o
  have s2 : sem tab 1000 14 13 [.agg [.blob 32 (uL key)], .agg (frC g)] [] = outT key g := V13s 0 3 key g hk og
  have b1 : sem tab 1000 14 10 [.agg (frC f)] [] = _ := V10X 0 5 f o
  have b2 : sem tab 1000 14 10 [.agg (frC g)] [] = _ := V10X 0 5 g og
  have haf := aheadF_le f.kind
  have hag := aheadF_le g.kind
  have t1 : sem tab 1000 14 11 [.l false (byL key), .l false (byL (frontF f))] [] = some (.agg [.blob 32 (uL (tX key f))], []) := L30 0 5 key (frontF f) (by omega) (by rw [frontF_len]; omega)
  have t2 : sem tab 1000 14 11 [.l false (byL key), .l false (byL (frontF g))] [] = some (.agg [.blob 32 (uL (tX key g))], []) := L30 0 5 key (frontF g) (by omega) (by rw [frontF_len]; omega)
  have lf := byL_len (frontF f)
  rw [frontF_len] at lf
  have lg := byL_len (frontF g)
  rw [frontF_len] at lg
  have tf : List.take (aheadF f.kind) (byL (frontF f)) = byL (frontF f) := List.take_of_length_le (by omega)
  have tg : List.take (aheadF g.kind) (byL (frontF g)) = byL (frontF g) := List.take_of_length_le (by omega)
  have cf := unB_by (frontF f)
  have cg := unB_by (frontF g)
  have kl : (uL key).length = 32 := by rw [uL_len, hk]
  have tk := take_k key hk
  have mk := map_uf key
  have hu' := uz32.symm
  have zl2 : (uL z32).length = 32 := by rw [uL_len]; rfl
  have x1 : (uL (tX key f)).length = 32 := by rw [uL_len, tX_len]
  have x2 : (uL (tX key g)).length = 32 := by rw [uL_len, tX_len]
  have q1 := eqIs_uL (tX key f) (tX key f) rfl
  rw [decide_eq_true rfl] at q1
  have q2 := eqIs_uL (tX key f) (tX key g) (by rw [tX_len, tX_len])
  have zf : (0 < (aheadF f.kind : Int)) := by omega
  have zf' : decide (0 < (aheadF f.kind : Int)) = true := decide_eq_true zf
  have zg' : decide ((aheadF f.kind : Int) > 0) = true := decide_eq_true zf
  have zn : 0 < aheadF f.kind := by omega
  have zn0 : ¬ aheadF f.kind = 0 := by omega
  unfold outT at s1 s2
  generalize chars (frontF f) = sf at *
  generalize chars (frontF g) = sg at *
  generalize decide (tX key f = tX key g) = e1 at *
  generalize uL (tX key f) = X at *
  generalize uL (tX key g) = Y at *
  generalize byL (frontF f) = yf at *
  generalize byL (frontF g) = yg at *
  generalize byL key = bk at *
  generalize uL key = u at *
  generalize canX f = c1 at *
  generalize canX g = c2 at *
  generalize aheadF f.kind = nf at *
  generalize aheadF g.kind = ng at *
  obtain ⟨a1, a2, a3, a4, a5, a6, a7, a8, a9⟩ := f
  obtain ⟨b1', b2', b3, b4, b5, b6, b7, b8, b9⟩ := g
  simp only [frC, row] at *
  generalize uL a9 = q at *
  generalize uL b9 = q' at *
  generalize uL z32 = z at *
  cases c1
  · rw [cond_false] at s1 b1
    clear t1 t2 tf tg q1 q2 cf cg
    cases c2
    · rw [cond_false] at s2 b2
      simp -implicitDefEqProofs (maxSteps := 1000000) (disch := first | omega | rfl) [m6, h8, s1, s2, b1, b2, zl2, kl, hu', -List.reduceReplicate, boxO, KVl, KF, KS, getS, getO, gS, zipN, dropW, takeW, wds, stvs, sea, seaL, refs, refsL, refsEls, refsO, isPureEls, isPures, isPure, noExt, noExts, noExtEls, cellsL, ren, renL, renEls, keepO, keepS, keysO, refsS, refsOB, headC, setS, boxO, row, putW, putB, putB1, eNl, newOs, frz, renO, noExtO, zps, zp, two32, w64, -getElem?_pos, k_cnt, k_cnt0]
    · rw [cond_true] at s2 b2
      simp -implicitDefEqProofs (maxSteps := 1000000) (disch := first | omega | rfl) [m6, h8, s1, s2, b1, b2, zl2, x2, kl, lg, hu', -List.reduceReplicate, boxO, KVl, KF, KS, getS, getO, gS, zipN, dropW, takeW, wds, stvs, sea, seaL, refs, refsL, refsEls, refsO, isPureEls, isPures, isPure, noExt, noExts, noExtEls, cellsL, ren, renL, renEls, keepO, keepS, keysO, refsS, refsOB, headC, setS, boxO, row, putW, putB, putB1, eNl, newOs, frz, renO, noExtO, zps, zp, two32, w64, -getElem?_pos, k_cnt, k_cnt0]
  · rw [cond_true] at s1 b1
    cases c2
    · rw [cond_false] at s2 b2
      simp -implicitDefEqProofs (maxSteps := 1000000) (disch := first | omega | rfl) [m6, h8, s1, s2, b1, b2, t1, lf, tf, tk, mk, x1, q1, zn, zn0, zf, zf', zg', zl2, kl, hu', -List.reduceReplicate, boxO, KVl, KF, KS, getS, getO, gS, zipN, dropW, takeW, wds, stvs, sea, seaL, refs, refsL, refsEls, refsO, isPureEls, isPures, isPure, noExt, noExts, noExtEls, cellsL, ren, renL, renEls, keepO, keepS, keysO, refsS, refsOB, headC, setS, boxO, row, putW, putB, putB1, eNl, newOs, frz, renO, noExtO, zps, zp, two32, w64, -getElem?_pos, k_cnt, k_cnt0]
    · rw [cond_true] at s2 b2
      cases e1
      · simp -implicitDefEqProofs (maxSteps := 1000000) (disch := first | omega | rfl) [m6, h8, s1, s2, b1, b2, t1, lf, tf, lg, tg, tk, mk, x1, x2, q1, q2, zn, zn0, zf, zf', zg', zl2, kl, hu', -List.reduceReplicate, boxO, KVl, KF, KS, getS, getO, gS, zipN, dropW, takeW, wds, stvs, sea, seaL, refs, refsL, refsEls, refsO, isPureEls, isPures, isPure, noExt, noExts, noExtEls, cellsL, ren, renL, renEls, keepO, keepS, keysO, refsS, refsOB, headC, setS, boxO, row, putW, putB, putB1, eNl, newOs, frz, renO, noExtO, zps, zp, two32, w64, -getElem?_pos, k_cnt, k_cnt0]
      · cases e2 : decide (sf = sg) <;>
        simp -implicitDefEqProofs (maxSteps := 1000000) (disch := first | omega | rfl) [m6, h8, s1, s2, b1, b2, t1, t2, lf, tf, lg, tg, cf, cg, tk, mk, x1, x2, q1, q2, e2, zn, zn0, zf, zf', zg', zl2, kl, hu', -List.reduceReplicate, boxO, KVl, KF, KS, getS, getO, gS, zipN, dropW, takeW, wds, stvs, sea, seaL, refs, refsL, refsEls, refsO, isPureEls, isPures, isPure, noExt, noExts, noExtEls, cellsL, ren, renL, renEls, keepO, keepS, keysO, refsS, refsOB, headC, setS, boxO, row, putW, putB, putB1, eNl, newOs, frz, renO, noExtO, zps, zp, two32, w64, -getElem?_pos, k_cnt, k_cnt0]
theorem Pure.SealBody (us : List PV) (h : TyAll Tryd.prog 8 [23, 26, 26] us) : ∃ N d out, sem tab N d 6 us [] = some (.b true, out) := by
  simp only [TyAll] at h
  obtain ⟨v0, _, rfl, h0, v1, _, rfl, h1, v2, _, rfl, h2, rfl⟩ := h
  obtain ⟨key, hk, _, rfl⟩ := id_of h0
  obtain ⟨f, hf, rfl⟩ := frame_of h1
  obtain ⟨g, hg, rfl⟩ := frame_of h2
  exact ⟨1000, 15, [], sbody_law key f g hk hf hg⟩
end Go.Proofs.YtgpggpbibdnfhaaDoor
