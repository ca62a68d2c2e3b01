/- What is opened of any store may be: the plain law. -/
import Derived.Test.YtmhpkdcnhgmblaaDoorPgD
set_option linter.all false
set_option linter.unusedSimpArgs false
set_option linter.unusedVariables false
namespace Go.Proofs.YtmhpkdcnhgmblaaDoor
open Go
set_option maxHeartbeats 32000000 in
theorem opens_law (s : So) (hs : okSo s) : ∃ out, sem tab 1000 14 6 [.agg (soC false s)] [] = some (.b true, out) := by
  rw [sem_succ tab 1000 13 6 m6 rfl]
  have h9 := awakeA 0 0
  obtain ⟨hc, hr⟩ := hs
  have bl := byL_len s.2.1
  have hzl : (List.replicate 32 (PV.i IntKind.u8 0)).length = 32 := rfl
  by_cases f : (s.2.1.length : Int) > 2500
  · have f' : 2500 < (s.2.1.length : Int) := f
    rw [← bl] at f f'
    obtain ⟨c, D, u⟩ := s
    simp only [soC] at f f' ⊢
    generalize byL D = b at *
    simp -implicitDefEqProofs (maxSteps := 1000000) (disch := first | omega | rfl) [m6, h9, f, f', box, KS, getS, getO, gS, zipN, dropW, takeW, wds, stvs, sea, seaL, refs, refsL, refsEls, refsO, isPureEls, isPures, isPure, noExt, noExts, noExtEls, cellsL, ren, renL, renEls, keepO, keepS, keysO, refsS, refsOB, cntN, headC, setS, boxO, row, putW, putB, putB1, eNl, newOs, frz, renO, noExtO, zps, zp, two32, w64, -getElem?_pos]
  have f' : ¬ 2500 < (s.2.1.length : Int) := f
  have h13 := V13o 0 2 s (by omega) hr
  have h27 := V27s 1000 12 s
  cases hm : mayS s
  · rw [hm] at h13 h27
    rw [← bl] at f f'
    obtain ⟨c, D, u⟩ := s
    simp only [cond_false, loR, loC, zeLo, soC, show byL [] = [] from rfl, show enL [] = [] from rfl] at h13 h27 f f' ⊢
    generalize byL D = b at *
    generalize uL zero32L = q at *
    generalize hz' : List.replicate 32 (PV.i .u8 0) = zz at *
    simp -implicitDefEqProofs (maxSteps := 1000000) (disch := first | omega | rfl) [m6, h9, h13, h27, f, f', hz', hzl, box, KS, getS, getO, gS, zipN, dropW, takeW, wds, stvs, sea, seaL, refs, refsL, refsEls, refsO, isPureEls, isPures, isPure, noExt, noExts, noExtEls, cellsL, ren, renL, renEls, keepO, keepS, keysO, refsS, refsOB, cntN, headC, setS, boxO, row, putW, putB, putB1, eNl, newOs, frz, renO, noExtO, zps, zp, two32, w64, -getElem?_pos]
  · obtain ⟨e1, e2, e3, e4⟩ := openL_eq hm hr
    have h31 := V31 0 3 s.2.1 (by omega) hr
    have rle := rdL_le s.2.1 hr
    rw [← e4] at h31
    rw [hm, cond_true, e1] at h13
    have h13' := V13o 0 2 (gL s.1 (rdL s.2.1)).1 (by simp only [gL, recL_len]; omega) (gL_R _ _)
    rw [mayS_gL e2, cond_true, openL_gL e2] at h13'
    have h22 := V22g 0 3 (gL s.1 (rdL s.2.1)) (by simp only [gL]; omega) e2.2.1 (gL_hd _ _)
    rw [mayG_gL e2] at h22
    have h23 := V23g 0 10 (gL s.1 (rdL s.2.1)) (gL s.1 (rdL s.2.1)) (by simp only [gL]; omega) (gL_hd _ _) (gL_hd _ _)
    rw [sameG_self] at h23
    have h26 := V37 0 11 (rdL s.2.1) (rdL s.2.1) (by omega)
    rw [sameL_self] at h26
    have uu := eqIs_uu (hdL h0 (rdL s.2.1))
    have ul := uL_len (hdL h0 (rdL s.2.1))
    rw [hdL_len _ _ h0_len] at ul
    have c1 := unB_by (recL h0 (rdL s.2.1))
    have c2 := byL_take s.2.1 (62 * (rdL s.2.1).length)
    rw [e3] at c2
    have wb := allW_by s.2.1
    have ql := byL_len (recL h0 (rdL s.2.1))
    rw [recL_len] at ql
    have el := enL_len (rdL s.2.1)
    have te : List.take (rdL s.2.1).length (enL (rdL s.2.1)) = enL (rdL s.2.1) := List.take_of_length_le (by omega)
    have n1 : (0 : Int) ≤ ((62 * (rdL s.2.1).length : Nat) : Int) := by omega
    have n2 : ((62 * (rdL s.2.1).length : Nat) : Int) ≤ (s.2.1.length : Int) := by omega
    rw [← bl] at f f' n2
    simp only [gL, loR, loC, outR] at h13 h13' h22 h23 h31
    obtain ⟨c, D, u⟩ := s
    simp only [soC] at h13 h13' h22 h23 h26 h31 uu ul c1 c2 wb ql el te n1 n2 f f' ⊢
    generalize chars (recL h0 (rdL D)) = ch at *
    generalize byL (recL h0 (rdL D)) = w at *
    generalize byL D = b at *
    generalize uL (hdL h0 (rdL D)) = q at *
    generalize enL (rdL D) = a at *
    generalize 62 * (rdL D).length = n at *
    generalize (rdL D).length = k at *
    simp only [row] at h31
    generalize hz' : List.replicate 32 (PV.i .u8 0) = zz at *
    simp -implicitDefEqProofs (maxSteps := 1000000) (disch := first | omega | rfl) [m6, h9, h13, h13', h22, h23, h26, h31, uu, ul, c1, c2, wb, ql, el, te, n1, n2, f, f', hz', hzl, box, KY, KV, KS, getS, getO, gS, zipN, dropW, takeW, wds, stvs, sea, seaL, refs, refsL, refsEls, refsO, isPureEls, isPures, isPure, noExt, noExts, noExtEls, cellsL, ren, renL, renEls, keepO, keepS, keysO, refsS, refsOB, cntN, headC, setS, boxO, row, putW, putB, putB1, eNl, newOs, frz, renO, noExtO, zps, zp, two32, w64, -getElem?_pos]
theorem Pure.AuditOpens (us : List PV) (h : TyAll Tryd.prog 8 [24] us) : ∃ N d out, sem tab N d 6 us [] = some (.b true, out) := by
  simp only [TyAll] at h
  obtain ⟨v0, _, rfl, h0, rfl⟩ := h
  obtain ⟨s, hs, rfl⟩ := store_of h0
  obtain ⟨out, h⟩ := opens_law s hs
  exact ⟨_, _, out, h⟩
end Go.Proofs.YtmhpkdcnhgmblaaDoor
