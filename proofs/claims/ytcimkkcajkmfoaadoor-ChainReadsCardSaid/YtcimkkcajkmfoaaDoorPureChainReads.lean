/- What is read is put as the bytes that were read: the plain law. -/
import Derived.Test.YtcimkkcajkmfoaaDoorPgC
set_option linter.all false
set_option linter.unusedSimpArgs false
set_option linter.unusedVariables false
namespace Go.Proofs.YtcimkkcajkmfoaaDoor
open Go
set_option maxHeartbeats 16000000 in
theorem reads_law (bs : List Int) (hr : byR bs) : ∃ out, sem tab 1000 12 9 [.l false (byL bs)] [] = some (.b true, out) := by
  rw [sem_succ tab 1000 11 9 m9 rfl]
  have h30 := awakeC 0 0
  have bl := byL_len bs
  by_cases f : (bs.length : Int) > 1500
  · have f' : 1500 < (bs.length : Int) := f
    rw [← bl] at f f'
    generalize byL bs = b at *
    simp -implicitDefEqProofs (maxSteps := 1000000) (disch := first | omega | rfl) [m9, h30, f, f', KS, getS, getO, gS, zipN, dropW, takeW, wds, stvs, sea, seaL, refs, refsL, refsEls, refsO, isPureEls, isPures, isPure, noExt, noExts, noExtEls, cellsL, ren, renL, renEls, keepO, keepS, keysO, refsS, refsOB, cntN, headC, setS, boxO, row, putW, putB, putB1, eNl, newOs, frz, renO, noExtO, zps, zp, two32, w64, -getElem?_pos]
  · have f' : ¬ 1500 < (bs.length : Int) := f
    obtain ⟨i1, i2, i3, i4, i5, i6⟩ := rd_spec 264 h0 bs hr
    have i6 := i6 (by omega) 0
    rw [Nat.zero_add, show vfS bs.length h0 0 (stepsL 264 h0 bs) = vfB bs from rfl] at i6
    rw [show goodS (stepsL 264 h0 bs) = rdS bs from rfl] at i1 i2 i3 i4 i5 i6
    rw [show (rdS bs).map (·.1) = rdL bs from rfl] at i1 i2 i3 i5
    rw [show headS h0 (rdS bs) = rdH bs from rfl] at i3 i6
    have ln : (rdL bs).length = (rdS bs).length := by simp [rdL]
    rw [← ln] at i4 i5 i6
    have h31 := V31 0 1 bs (by omega) hr
    have h32 := V32 0 2 (rdL bs) (by omega) i2
    have h33 := V33 0 1 bs (by omega) hr
    rw [i1, cond_true, i3] at h32
    have el := enL_len (rdL bs)
    have rl := recL_len (rdL bs) h0
    have ql := byL_len (recL h0 (rdL bs))
    have qq := eqIs_uu (rdH bs)
    have c1 := unB_by (recL h0 (rdL bs))
    have c2 := unB_by (bs.take (62 * (rdL bs).length))
    rw [i5] at c1
    rw [← byL_take] at c2
    have w := allW_by bs
    simp only [outR, yesPut, outV] at h31 h32 h33
    rw [rl] at h32 ql
    have tq : List.take (62 * (rdL bs).length) (byL (recL h0 (rdL bs))) = byL (recL h0 (rdL bs)) := List.take_of_length_le (by omega)
    have te : List.take (rdL bs).length (enL (rdL bs)) = enL (rdL bs) := List.take_of_length_le (by omega)
    have wm : IntKind.i64.wrap (62 * ((rdL bs).length : Int)) = ((62 * (rdL bs).length : Nat) : Int) := by rw [w64 (by omega) (by omega)]; omega
    have hn : ¬ ((62 * (rdL bs).length : Nat) : Int) < 0 := by omega
    have hg : ¬ ((62 * (rdL bs).length : Nat) : Int) > bs.length := by omega
    have hg' : ¬ (bs.length : Int) < ((62 * (rdL bs).length : Nat) : Int) := by omega
    have hl' : ((62 * (rdL bs).length : Nat) : Int) ≤ bs.length := by omega
    have hge : (0 : Int) ≤ ((62 * (rdL bs).length : Nat) : Int) := by omega
    rw [← bl] at f f' hg hg' hl' i6
    generalize chars (bs.take (62 * (rdL bs).length)) = s at *
    generalize byL (recL h0 (rdL bs)) = q at *
    generalize enL (rdL bs) = e at *
    generalize (rdL bs).length = n at *
    generalize byL bs = b at *
    generalize rdH bs = h at *
    generalize 62 * n = m at *
    simp only [row] at h31 h32
    by_cases c : m = b.length
    · have d1 := i6.1.2 c
      have d2 := i6.2 d1
      rw [d1, d2] at h33
      have d3 : ((m : Int) == b.length) = true := by rw [beq_iff_eq]; omega
      generalize uL h = u at *
      generalize hz' : List.replicate 32 (PV.i .u8 0) = zz at *
      simp -implicitDefEqProofs (maxSteps := 1000000) (disch := first | omega | rfl) [m9, h30, h31, h32, h33, f, f', el, ql, qq, c1, c2, w, tq, te, wm, hn, hg, hg', hl', hge, d3, hz', box, KY, KV, KS, getS, getO, gS, zipN, dropW, takeW, wds, stvs, sea, seaL, refs, refsL, refsEls, refsO, isPureEls, isPures, isPure, noExt, noExts, noExtEls, cellsL, ren, renL, renEls, keepO, keepS, keysO, refsS, refsOB, cntN, headC, setS, boxO, row, putW, putB, putB1, eNl, newOs, frz, renO, noExtO, zps, zp, two32, w64, -getElem?_pos]
    · have d1 : ((vfB bs).2 == 0) = false := by rw [beq_eq_false_iff_ne]; exact fun h => c (i6.1.1 h)
      have d2 : ((vfB bs).2 != 0) = true := by simpa using d1
      have d3 : ((m : Int) == b.length) = false := by rw [beq_eq_false_iff_ne]; omega
      generalize uL h = u at *
      generalize uL (vfB bs).1 = v at *
      generalize (vfB bs).2 = vb at *
      generalize hz' : List.replicate 32 (PV.i .u8 0) = zz at *
      simp -implicitDefEqProofs (maxSteps := 1000000) (disch := first | omega | rfl) [m9, h30, h31, h32, h33, f, f', el, ql, qq, c1, c2, w, tq, te, wm, hn, hg, hg', hl', hge, d1, d2, d3, hz', box, KY, KV, KS, getS, getO, gS, zipN, dropW, takeW, wds, stvs, sea, seaL, refs, refsL, refsEls, refsO, isPureEls, isPures, isPure, noExt, noExts, noExtEls, cellsL, ren, renL, renEls, keepO, keepS, keysO, refsS, refsOB, cntN, headC, setS, boxO, row, putW, putB, putB1, eNl, newOs, frz, renO, noExtO, zps, zp, two32, w64, -getElem?_pos]
theorem Pure.ChainReads (us : List PV) (h : TyAll Tryd.prog 8 [23] us) : ∃ N d out, sem tab N d 9 us [] = some (.b true, out) := by
  simp only [TyAll] at h
  obtain ⟨v0, _, rfl, h0, rfl⟩ := h
  obtain ⟨bs, hb, rfl⟩ := bytes_of h0
  obtain ⟨out, h⟩ := reads_law bs hb
  exact ⟨_, _, out, h⟩
end Go.Proofs.YtcimkkcajkmfoaaDoor
