/- Each kind has its own length: the plain law. -/
import Derived.Test.YtmhpkdcnhgmblaaPgB
set_option linter.all false
set_option linter.unusedSimpArgs false
set_option linter.unusedVariables false
namespace Go.Proofs.Ytmhpkdcnhgmblaa
open Go
attribute [local congr] bnd_cg bndO_cg br_cg
set_option maxHeartbeats 16000000 in
theorem long_law (f g : Fra) (hf : okF f) (hg : okF g) : sem tab 1000 9 6 [.agg (frC f), .agg (frC g)] [] = some (.b true, []) := by
  rw [sem_succ tab 1000 8 6 m6 rfl]
  have h9 := awake4
  have p1 := V10L f hf
  have p2 := V10L g hg
  have he := eSt_fr f g hf.tag hg.tag
  have tf := take_put (putF f)
  have tg := take_put (putF g)
  have sf := unB_by (putF f)
  have sg := unB_by (putF g)
  have hd := dec_put f g hf hg
  have bf := byL_len (putF f)
  have bg := byL_len (putF g)
  cases c1 : plainF f
  · rw [c1, cond_false] at p1
    obtain ⟨a1, a2, a3, a4, a5, a6, a7, a8, a9⟩ := f
    obtain ⟨b1, b2, b3, b4, b5, b6, b7, b8, b9⟩ := g
    generalize byL (putF ⟨b1, b2, b3, b4, b5, b6, b7, b8, b9⟩) = pg at *
    generalize (putF ⟨b1, b2, b3, b4, b5, b6, b7, b8, b9⟩).length = ng at *
    generalize plainF ⟨b1, b2, b3, b4, b5, b6, b7, b8, b9⟩ = c2 at *
    simp only [frC, row] at *
    generalize uL a9 = q at *
    generalize uL b9 = r at *
    cases c2 <;> simp only [cond_false, cond_true] at p2 <;>
    simp -implicitDefEqProofs (maxSteps := 1000000) (disch := first | omega | rfl) [m6, h9, p1, p2, tg, bg, boxO, KF, KS, getS, getO, gS, zipN, dropW, takeW, wds, stvs, sea, seaL, refs, refsL, refsEls, refsO, isPureEls, isPures, isPure, noExt, noExts, noExtEls, cellsL, ren, renL, renEls, keepO, keepS, keysO, refsS, refsOB, headC, setS, boxO, row, putW, putB, putB1, eNl, newOs, frz, renO, noExtO, zps, zp, two32, w64, -getElem?_pos, k_cnt, k_cnt0]
  · rw [c1, cond_true] at p1
    have hP := (plainF_iff f).1 c1
    have hd2 := hd hP
    have ln := putF_len f hP.kind hf.tag
    rw [ln] at p1 tf bf
    have hk := kinds hP.kind
    obtain ⟨a1, a2, a3, a4, a5, a6, a7, a8, a9⟩ := f
    obtain ⟨b1, b2, b3, b4, b5, b6, b7, b8, b9⟩ := g
    simp only at hk ln p1 tf bf
    generalize byL (putF ⟨a1, a2, a3, a4, a5, a6, a7, a8, a9⟩) = pf at *
    generalize chars (putF ⟨a1, a2, a3, a4, a5, a6, a7, a8, a9⟩) = s1 at *
    generalize eqFr ⟨a1, a2, a3, a4, a5, a6, a7, a8, a9⟩ ⟨b1, b2, b3, b4, b5, b6, b7, b8, b9⟩ = e at *
    generalize byL (putF ⟨b1, b2, b3, b4, b5, b6, b7, b8, b9⟩) = pg at *
    generalize chars (putF ⟨b1, b2, b3, b4, b5, b6, b7, b8, b9⟩) = s2 at *
    generalize (putF ⟨b1, b2, b3, b4, b5, b6, b7, b8, b9⟩).length = ng at *
    cases c2 : plainF ⟨b1, b2, b3, b4, b5, b6, b7, b8, b9⟩
    · rw [c2, cond_false] at p2
      clear hd hd2 hP c1 ln
      simp only [frC, row] at *
      generalize uL a9 = q at *
      generalize uL b9 = r at *
      rcases hk with k | k | k | k | k | k | k <;> subst k <;> simp only [szF] at p1 tf bf <;>
      simp -implicitDefEqProofs (maxSteps := 1000000) (disch := first | omega | rfl) [m6, h9, p1, p2, tf, bf, sf, boxO, KF, KS, getS, getO, gS, zipN, dropW, takeW, wds, stvs, sea, seaL, refs, refsL, refsEls, refsO, isPureEls, isPures, isPure, noExt, noExts, noExtEls, cellsL, ren, renL, renEls, keepO, keepS, keysO, refsS, refsOB, headC, setS, boxO, row, putW, putB, putB1, eNl, newOs, frz, renO, noExtO, zps, zp, two32, w64, -getElem?_pos, k_cnt, k_cnt0] at p1 tf bf ⊢ <;>
      simp -implicitDefEqProofs (maxSteps := 1000000) (disch := first | omega | rfl) [m6, h9, p1, p2, tf, bf, sf, boxO, KF, KS, getS, getO, gS, zipN, dropW, takeW, wds, stvs, sea, seaL, refs, refsL, refsEls, refsO, isPureEls, isPures, isPure, noExt, noExts, noExtEls, cellsL, ren, renL, renEls, keepO, keepS, keysO, refsS, refsOB, headC, setS, boxO, row, putW, putB, putB1, eNl, newOs, frz, renO, noExtO, zps, zp, two32, w64, -getElem?_pos, k_cnt, k_cnt0]
    · rw [c2, cond_true] at p2
      have hd3 := hd2 ((plainF_iff _).1 c2)
      clear hP c1 c2 ln hd hd2
      simp only [frC, row] at *
      generalize uL a9 = q at *
      generalize uL b9 = r at *
      rcases hk with k | k | k | k | k | k | k <;> subst k <;> simp [szF] at p1 tf bf <;>
      simp -implicitDefEqProofs (maxSteps := 1000000) (disch := first | omega | rfl) [m6, h9, p1, p2, tf, tg, bf, bg, sf, sg, hd3, he, boxO, KF, KS, getS, getO, gS, zipN, dropW, takeW, wds, stvs, sea, seaL, refs, refsL, refsEls, refsO, isPureEls, isPures, isPure, noExt, noExts, noExtEls, cellsL, ren, renL, renEls, keepO, keepS, keysO, refsS, refsOB, headC, setS, boxO, row, putW, putB, putB1, eNl, newOs, frz, renO, noExtO, zps, zp, two32, w64, -getElem?_pos, k_cnt, k_cnt0]
theorem Pure.FrameLong (us : List PV) (h : TyAll Try.prog 8 [26, 26] us) : ∃ N d out, sem tab N d 6 us [] = some (.b true, out) := by
  simp only [TyAll] at h
  obtain ⟨v0, _, rfl, h0, v1, _, rfl, h1, rfl⟩ := h
  obtain ⟨f, hf, rfl⟩ := frame_of h0
  obtain ⟨g, hg, rfl⟩ := frame_of h1
  exact ⟨1000, 9, [], long_law f g hf hg⟩
end Go.Proofs.Ytmhpkdcnhgmblaa
