/- What is put is read as it; what is read is put as the same bytes: the plain law. -/
import Derived.Test.YtmhpkdcnhgmblaaPgC
set_option linter.all false
set_option linter.unusedSimpArgs false
set_option linter.unusedVariables false
namespace Go.Proofs.Ytmhpkdcnhgmblaa
open Go
attribute [local congr] bnd_cg bndO_cg br_cg
theorem errF_ne (b : List Int) : errF b ≠ 0 := by
  unfold errF
  repeat' split
  all_goals decide
set_option maxHeartbeats 16000000 in
theorem back_law (f : Fra) (b : List Int) (hf : okF f) (hr : ∀ x ∈ b, 0 ≤ x ∧ x ≤ 255) : sem tab 1000 9 3 [.agg (frC f), .l false (byL b)] [] = some (.b true, []) := by
  rw [sem_succ tab 1000 8 3 m3 rfl]
  have h9 := awake4
  have bb := byL_len b
  by_cases c0 : (b.length : Int) > 400
  · rw [← bb] at c0
    obtain ⟨a1, a2, a3, a4, a5, a6, a7, a8, a9⟩ := f
    simp only [frC]
    generalize uL a9 = q at *
    generalize byL b = y at *
    simp -implicitDefEqProofs (maxSteps := 1000000) (disch := first | omega | rfl) [m3, h9, c0, boxO, KF, KS, getS, getO, gS, zipN, dropW, takeW, wds, stvs, sea, seaL, refs, refsL, refsEls, refsO, isPureEls, isPures, isPure, noExt, noExts, noExtEls, cellsL, ren, renL, renEls, keepO, keepS, keysO, refsS, refsOB, headC, setS, boxO, row, putW, putB, putB1, eNl, newOs, frz, renO, noExtO, zps, zp, two32, w64, -getElem?_pos, k_cnt, k_cnt0]
  have p1 := V10L f hf
  have r2 := V11L b (by omega) hr
  have tb := take_put b
  have sb := unB_by b
  have hu' := uz32.symm
  have key : (∃ (w : Fra) (y : List (List PV)), sem tab 1000 8 11 [.l false (byL b)] [] = some (.tup [.agg (frC w), .i .i64 0], []) ∧ sem tab 1000 8 10 [.agg (frC w)] [] = some (.tup [.sl 0 0 0 b.length, .b true], [row (byL b) 1 true])) ∨
      (∃ e, (e == 0) = false ∧ sem tab 1000 8 11 [.l false (byL b)] [] = some (.tup [.agg (frC zeF), .i .i64 e], [])) := by
    rw [r2]
    unfold outRd
    cases hg : goodF b
    · right
      exact ⟨errF b, by rw [beq_eq_false_iff_ne]; exact errF_ne b, rfl⟩
    · left
      obtain ⟨g1, g2, g3⟩ := good_of hr hg
      have p2 := V10L (seemF b) g2
      rw [(plainF_iff _).2 g1, cond_true, g3] at p2
      exact ⟨seemF b, [], rfl, p2⟩
  have pz := V10L zeF okF_ze
  rw [show plainF zeF = true from by decide, cond_true] at pz
  have tz := take_put (putF zeF)
  have lz := byL_len (putF zeF)
  have sz := unB_by (putF zeF)
  have ez := eSt_frn false zeF zeF z32_len z32_len
  rw [eqFr_self] at ez
  clear r2
  generalize byL (putF zeF) = zz at *
  generalize (putF zeF).length = zn at *
  generalize chars (putF zeF) = zs at *
  cases c1 : plainF f
  · rw [c1, cond_false] at p1
    have r1 := R0L
    unfold errR at r1
    rw [← bb] at c0
    obtain ⟨a1, a2, a3, a4, a5, a6, a7, a8, a9⟩ := f
    rcases key with ⟨⟨b1, b2, b3, b4, b5, b6, b7, b8, b9⟩, y, r2, p2⟩ | ⟨e, he, r2⟩
    · rw [← bb] at p2 tb
      simp only [frC, zeF, row] at *
      generalize uL a9 = q at *
      generalize uL b9 = q' at *
      generalize uL z32 = z at *
      generalize byL b = y at *
      simp -implicitDefEqProofs (maxSteps := 1000000) (disch := first | omega | rfl) [m3, h9, c0, p1, r1, r2, p2, tb, sb, hu', -List.reduceReplicate, boxO, KF, KS, getS, getO, gS, zipN, dropW, takeW, wds, stvs, sea, seaL, refs, refsL, refsEls, refsO, isPureEls, isPures, isPure, noExt, noExts, noExtEls, cellsL, ren, renL, renEls, keepO, keepS, keysO, refsS, refsOB, headC, setS, boxO, row, putW, putB, putB1, eNl, newOs, frz, renO, noExtO, zps, zp, two32, w64, -getElem?_pos, k_cnt, k_cnt0]
    · have he' : (e != 0) = true := by rw [bne_iff_ne]; exact beq_eq_false_iff_ne.1 he
      simp only [frC, zeF, row] at *
      generalize uL a9 = q at *
      generalize uL z32 = z at *
      generalize byL b = y at *
      simp -implicitDefEqProofs (maxSteps := 1000000) (disch := first | omega | rfl) [m3, h9, c0, p1, r1, r2, he, he', pz, tz, lz, sz, ez, hu', -List.reduceReplicate, boxO, KF, KS, getS, getO, gS, zipN, dropW, takeW, wds, stvs, sea, seaL, refs, refsL, refsEls, refsO, isPureEls, isPures, isPure, noExt, noExts, noExtEls, cellsL, ren, renL, renEls, keepO, keepS, keysO, refsS, refsOB, headC, setS, boxO, row, putW, putB, putB1, eNl, newOs, frz, renO, noExtO, zps, zp, two32, w64, -getElem?_pos, k_cnt, k_cnt0]
  · rw [c1, cond_true] at p1
    have hP := (plainF_iff f).1 c1
    have ln := putF_len f hP.kind hf.tag
    have sl := szF_le f.kind
    have r1 := V11L (putF f) (by omega) (putF_range f hf.tagr)
    unfold outRd at r1
    rw [good_put f hP hf, seem_put f hP hf, cond_true] at r1
    unfold okR at r1
    have ef := eSt_frn true f f hf.tag hf.tag
    rw [eqFr_self] at ef
    have tf := take_put (putF f)
    have lf := byL_len (putF f)
    clear ln sl
    generalize byL (putF f) = x at *
    generalize (putF f).length = n at *
    rw [← bb] at c0
    obtain ⟨a1, a2, a3, a4, a5, a6, a7, a8, a9⟩ := f
    rcases key with ⟨⟨b1, b2, b3, b4, b5, b6, b7, b8, b9⟩, y, r2, p2⟩ | ⟨e, he, r2⟩
    · rw [← bb] at p2 tb
      simp only [frC, zeF, row] at *
      generalize uL a9 = q at *
      generalize uL b9 = q' at *
      generalize uL z32 = z at *
      generalize byL b = y at *
      simp -implicitDefEqProofs (maxSteps := 1000000) (disch := first | omega | rfl) [m3, h9, c0, p1, r1, r2, p2, tb, sb, ef, tf, lf, hu', -List.reduceReplicate, boxO, KF, KS, getS, getO, gS, zipN, dropW, takeW, wds, stvs, sea, seaL, refs, refsL, refsEls, refsO, isPureEls, isPures, isPure, noExt, noExts, noExtEls, cellsL, ren, renL, renEls, keepO, keepS, keysO, refsS, refsOB, headC, setS, boxO, row, putW, putB, putB1, eNl, newOs, frz, renO, noExtO, zps, zp, two32, w64, -getElem?_pos, k_cnt, k_cnt0]
    · have he' : (e != 0) = true := by rw [bne_iff_ne]; exact beq_eq_false_iff_ne.1 he
      simp only [frC, zeF, row] at *
      generalize uL a9 = q at *
      generalize uL z32 = z at *
      generalize byL b = y at *
      simp -implicitDefEqProofs (maxSteps := 1000000) (disch := first | omega | rfl) [m3, h9, c0, p1, r1, r2, he, he', pz, tz, lz, sz, ez, ef, tf, lf, hu', -List.reduceReplicate, boxO, KF, KS, getS, getO, gS, zipN, dropW, takeW, wds, stvs, sea, seaL, refs, refsL, refsEls, refsO, isPureEls, isPures, isPure, noExt, noExts, noExtEls, cellsL, ren, renL, renEls, keepO, keepS, keysO, refsS, refsOB, headC, setS, boxO, row, putW, putB, putB1, eNl, newOs, frz, renO, noExtO, zps, zp, two32, w64, -getElem?_pos, k_cnt, k_cnt0]
theorem Pure.FrameBack (us : List PV) (h : TyAll Try.prog 8 [26, 27] us) : ∃ N d out, sem tab N d 3 us [] = some (.b true, out) := by
  simp only [TyAll] at h
  obtain ⟨v0, _, rfl, h0, v1, _, rfl, h1, rfl⟩ := h
  obtain ⟨f, hf, rfl⟩ := frame_of h0
  obtain ⟨b, hb, rfl⟩ := bytes_of h1
  exact ⟨1000, 9, [], back_law f b hf hb⟩
end Go.Proofs.Ytmhpkdcnhgmblaa
