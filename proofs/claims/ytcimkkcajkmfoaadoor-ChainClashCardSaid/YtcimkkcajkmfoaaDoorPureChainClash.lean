/- Two lists of one head tell two texts of one sum: the plain law. -/
import Derived.Test.YtcimkkcajkmfoaaDoorPgC
set_option linter.all false
set_option linter.unusedSimpArgs false
set_option linter.unusedVariables false
namespace Go.Proofs.YtcimkkcajkmfoaaDoor
open Go
set_option maxHeartbeats 64000000 in
theorem clash_law (a b : List En) (oa : ∀ e ∈ a, okE e) (obb : ∀ e ∈ b, okE e) : ∃ out, sem tab 1000 12 14 [.l false (enL a), .l false (enL b)] [] = some (.b true, out) := by
  rw [sem_succ tab 1000 11 14 m14 rfl]
  have h30 := awakeC 0 0
  have ea := enL_len a
  have eb := enL_len b
  by_cases f : (a.length : Int) > 20
  · have f' : 20 < (a.length : Int) := f
    rw [← ea] at f f'
    generalize enL a = xa at *
    generalize enL b = xb at *
    simp -implicitDefEqProofs (maxSteps := 1000000) (disch := first | omega | rfl) [m14, h30, f, f', KS, getS, getO, gS, zipN, dropW, takeW, wds, stvs, sea, seaL, refs, refsL, refsEls, refsO, isPureEls, isPures, isPure, noExt, noExts, noExtEls, cellsL, ren, renL, renEls, keepO, keepS, keysO, refsS, refsOB, cntN, headC, setS, boxO, row, putW, putB, putB1, eNl, newOs, frz, renO, noExtO, zps, zp, two32, w64, -getElem?_pos]
  have f' : ¬ 20 < (a.length : Int) := f
  by_cases g : (b.length : Int) > 20
  · have g' : 20 < (b.length : Int) := g
    rw [← ea] at f f'
    rw [← eb] at g g'
    generalize enL a = xa at *
    generalize enL b = xb at *
    simp -implicitDefEqProofs (maxSteps := 1000000) (disch := first | omega | rfl) [m14, h30, f, f', g, g', KS, getS, getO, gS, zipN, dropW, takeW, wds, stvs, sea, seaL, refs, refsL, refsEls, refsO, isPureEls, isPures, isPure, noExt, noExts, noExtEls, cellsL, ren, renL, renEls, keepO, keepS, keysO, refsS, refsOB, cntN, headC, setS, boxO, row, putW, putB, putB1, eNl, newOs, frz, renO, noExtO, zps, zp, two32, w64, -getElem?_pos]
  have g' : ¬ 20 < (b.length : Int) := g
  have h32 := V32 0 2 a (by omega) oa
  have h32' := V32 0 2 b (by omega) obb
  have h43 := V43 0 1 a b (by omega) (by omega) oa obb
  have h37 := V37 0 9 a b (by omega)
  have qa := eqIs_dec' (hdL h0 a) (hdL h0 b) (by rw [hdL_len _ _ h0_len, hdL_len _ _ h0_len])
  have la := uL_len (hdL h0 a)
  rw [hdL_len _ _ h0_len] at la
  have lb := uL_len (hdL h0 b)
  rw [hdL_len _ _ h0_len] at lb
  have hzl : (List.replicate 32 (PV.i IntKind.u8 0)).length = 32 := rfl
  have hz := hz32
  unfold clashR at h43
  by_cases hg : (a.all mayE && (b.all mayE && decide (hdL h0 a = hdL h0 b))) = true
  · rw [hg, cond_true] at h43
    simp only [Bool.and_eq_true, decide_eq_true_eq] at hg
    obtain ⟨ma, mb, hh⟩ := hg
    rw [ma] at h32
    rw [mb] at h32'
    rw [decide_eq_true hh] at qa
    have ci := clash_ind a b ma mb oa obb a.length b.length (Nat.le_refl _) (Nat.le_refl _) (by rw [List.take_length, List.take_length]; exact hh)
    rw [List.take_length, List.take_length] at ci
    rcases ci with ⟨g1, g2⟩ | ⟨x, y, g1, g2, g3, g4, g5, g6, g7, g8⟩
    · rw [g1] at h43
      rw [(sameL_iff a b).2 g2] at h37
      simp only [yesPut, cond_true, outCl, row] at h32 h32' h43
      rw [← ea] at f f'
      rw [← eb] at g g'
      clear hz hh g2
      generalize (recL h0 a).length = n at *
      generalize byL (recL h0 a) = q at *
      generalize uL (hdL h0 a) = u at *
      generalize (recL h0 b).length = n' at *
      generalize byL (recL h0 b) = q' at *
      generalize uL (hdL h0 b) = u' at *
      generalize enL a = xa at *
      generalize enL b = xb at *
      generalize hz' : List.replicate 32 (PV.i .u8 0) = zz at *
      simp -implicitDefEqProofs (maxSteps := 1000000) (disch := first | omega | rfl) [m14, h30, h32, h32', h43, h37, qa, f, f', g, g', la, lb, hz', hzl, box, KV, KS, getS, getO, gS, zipN, dropW, takeW, wds, stvs, sea, seaL, refs, refsL, refsEls, refsO, isPureEls, isPures, isPure, noExt, noExts, noExtEls, cellsL, ren, renL, renEls, keepO, keepS, keysO, refsS, refsOB, cntN, headC, setS, boxO, row, putW, putB, putB1, eNl, newOs, frz, renO, noExtO, zps, zp, two32, w64, -getElem?_pos]
    · rw [g1] at h43
      have hs : sameL a b = false := by
        cases hs : sameL a b
        · rfl
        · exact absurd ((sameL_iff a b).1 hs) g2
      rw [hs] at h37
      have s1 := L26' 0 4 x (by omega)
      have s2 := L26' 0 4 y (by omega)
      rw [← g4] at s2
      have uu := eqIs_uu (sumI' x)
      have b1 := unB_by x
      have b2 := unB_by y
      have d1 : (chars x = chars y) = False := by rw [eq_iff_iff, iff_false]; exact g3
      have lx := byL_len x
      have ly := byL_len y
      have z1 : ((x.length : Int) == 0) = false := by rw [beq_eq_false_iff_ne]; omega
      have z2 : ((y.length : Int) == 0) = false := by rw [beq_eq_false_iff_ne]; omega
      rw [← lx] at z1
      rw [← ly] at z2
      simp only [yesPut, cond_true, outCl, row] at h32 h32' h43
      rw [← ea] at f f'
      rw [← eb] at g g'
      clear hz hh g2 g1 hs
      generalize (recL h0 a).length = n at *
      generalize byL (recL h0 a) = q at *
      generalize uL (hdL h0 a) = u at *
      generalize (recL h0 b).length = n' at *
      generalize byL (recL h0 b) = q' at *
      generalize uL (hdL h0 b) = u' at *
      generalize enL a = xa at *
      generalize enL b = xb at *
      generalize chars x = cx at *
      generalize chars y = cy at *
      generalize byL x = wx at *
      generalize byL y = wy at *
      generalize uL (sumI' x) = us at *
      generalize hz' : List.replicate 32 (PV.i .u8 0) = zz at *
      simp -implicitDefEqProofs (maxSteps := 1000000) (disch := first | omega | rfl) [m14, h30, h32, h32', h43, h37, qa, f, f', g, g', la, lb, s1, s2, uu, b1, b2, d1, z1, z2, hz', hzl, box, KV, KS, getS, getO, gS, zipN, dropW, takeW, wds, stvs, sea, seaL, refs, refsL, refsEls, refsO, isPureEls, isPures, isPure, noExt, noExts, noExtEls, cellsL, ren, renL, renEls, keepO, keepS, keysO, refsS, refsOB, cntN, headC, setS, boxO, row, putW, putB, putB1, eNl, newOs, frz, renO, noExtO, zps, zp, two32, w64, -getElem?_pos]
  · have hg' : (a.all mayE && (b.all mayE && decide (hdL h0 a = hdL h0 b))) = false := by simpa using hg
    rw [hg', cond_false] at h43
    generalize a.all mayE = ma at *
    generalize b.all mayE = mb at *
    generalize decide (hdL h0 a = hdL h0 b) = q0 at *
    simp only [yesPut, noPut, outCl, row, ← hz] at h32 h32' h43
    rw [← ea] at f f'
    rw [← eb] at g g'
    clear hz
    generalize (recL h0 a).length = n at *
    generalize byL (recL h0 a) = q at *
    generalize uL (hdL h0 a) = u at *
    generalize (recL h0 b).length = n' at *
    generalize byL (recL h0 b) = q' at *
    generalize uL (hdL h0 b) = u' at *
    generalize enL a = xa at *
    generalize enL b = xb at *
    generalize hz' : List.replicate 32 (PV.i .u8 0) = zz at *
    cases ma
    · cases mb <;> simp only [cond_true, cond_false] at h32 h32' <;> simp -implicitDefEqProofs (maxSteps := 1000000) (disch := first | omega | rfl) [m14, h30, h32, h32', h43, f, f', g, g', la, lb, hz', hzl, box, KV, KS, getS, getO, gS, zipN, dropW, takeW, wds, stvs, sea, seaL, refs, refsL, refsEls, refsO, isPureEls, isPures, isPure, noExt, noExts, noExtEls, cellsL, ren, renL, renEls, keepO, keepS, keysO, refsS, refsOB, cntN, headC, setS, boxO, row, putW, putB, putB1, eNl, newOs, frz, renO, noExtO, zps, zp, two32, w64, -getElem?_pos]
    · cases mb
      · simp only [cond_true, cond_false] at h32 h32'
        simp -implicitDefEqProofs (maxSteps := 1000000) (disch := first | omega | rfl) [m14, h30, h32, h32', h43, f, f', g, g', la, lb, hz', hzl, box, KV, KS, getS, getO, gS, zipN, dropW, takeW, wds, stvs, sea, seaL, refs, refsL, refsEls, refsO, isPureEls, isPures, isPure, noExt, noExts, noExtEls, cellsL, ren, renL, renEls, keepO, keepS, keysO, refsS, refsOB, cntN, headC, setS, boxO, row, putW, putB, putB1, eNl, newOs, frz, renO, noExtO, zps, zp, two32, w64, -getElem?_pos]
      · rw [show q0 = false by simpa using hg'] at qa
        simp only [cond_true, cond_false] at h32 h32'
        simp -implicitDefEqProofs (maxSteps := 1000000) (disch := first | omega | rfl) [m14, h30, h32, h32', h43, qa, f, f', g, g', la, lb, hz', hzl, box, KV, KS, getS, getO, gS, zipN, dropW, takeW, wds, stvs, sea, seaL, refs, refsL, refsEls, refsO, isPureEls, isPures, isPure, noExt, noExts, noExtEls, cellsL, ren, renL, renEls, keepO, keepS, keysO, refsS, refsOB, cntN, headC, setS, boxO, row, putW, putB, putB1, eNl, newOs, frz, renO, noExtO, zps, zp, two32, w64, -getElem?_pos]
theorem Pure.ChainClash (us : List PV) (h : TyAll Tryd.prog 8 [47, 47] us) : ∃ N d out, sem tab N d 14 us [] = some (.b true, out) := by
  simp only [TyAll] at h
  obtain ⟨v0, _, rfl, h0, v1, _, rfl, h1, rfl⟩ := h
  obtain ⟨a, ha, rfl⟩ := entries_of h0
  obtain ⟨b, hb, rfl⟩ := entries_of h1
  obtain ⟨out, h⟩ := clash_law a b ha hb
  exact ⟨_, _, out, h⟩
end Go.Proofs.YtcimkkcajkmfoaaDoor
