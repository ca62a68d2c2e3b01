/- What is added stands behind all, and is sure: the plain law. -/
import Derived.Test.YtmhpkdcnhgmblaaDoorPgD
set_option linter.all false
set_option linter.unusedSimpArgs false
set_option linter.unusedVariables false
namespace Go.Proofs.YtmhpkdcnhgmblaaDoor
open Go
set_option maxHeartbeats 64000000 in
theorem adds_law (l : Lo) (e : En) (urg : Bool) (hl : okLo l) (he : okE e) : ∃ out, sem tab 1000 14 4 [.agg (loC false l), .agg (enC e), .b urg] [] = some (.b true, out) := by
  rw [sem_succ tab 1000 13 4 m4 rfl]
  have h9 := awakeA 0 0
  obtain ⟨hc, hr, ho, hh⟩ := hl
  have hzl : (List.replicate 32 (PV.i IntKind.u8 0)).length = 32 := rfl
  have h10 := V10f 1000 12 l
  by_cases f : (decide ((l.2.1.length : Int) ≤ 30) && decide ((l.1.2.1.length : Int) ≤ 2500)) = true
  case neg =>
    rw [show (decide ((l.2.1.length : Int) ≤ 30) && decide ((l.1.2.1.length : Int) ≤ 2500)) = false by simpa using f] at h10
    obtain ⟨⟨c, D, u⟩, L, H⟩ := l
    obtain ⟨e1, e2, e3, e4, e5, e6, e7, e8, e9⟩ := e
    simp only [loC, enC] at h10 ⊢
    generalize byL D = b at *
    generalize enL L = a at *
    generalize uL H = q at *
    simp -implicitDefEqProofs (maxSteps := 1000000) (disch := first | omega | rfl) [m4, h9, h10, box, KS, getS, getO, gS, zipN, dropW, takeW, wds, stvs, sea, seaL, refs, refsL, refsEls, refsO, isPureEls, isPures, isPure, noExt, noExts, noExtEls, cellsL, ren, renL, renEls, keepO, keepS, keysO, refsS, refsOB, cntN, headC, setS, boxO, row, putW, putB, putB1, eNl, newOs, frz, renO, noExtO, zps, zp, two32, w64, -getElem?_pos]
  case pos =>
  rw [f] at h10
  rw [Bool.and_eq_true, decide_eq_true_eq, decide_eq_true_eq] at f
  obtain ⟨f1, f2⟩ := f
  have h22 := V22g 0 3 l (by omega) ho hh
  cases hm : mayG l
  case false =>
    rw [hm] at h22
    obtain ⟨⟨c, D, u⟩, L, H⟩ := l
    obtain ⟨e1, e2, e3, e4, e5, e6, e7, e8, e9⟩ := e
    simp only [loC, enC] at h10 h22 ⊢
    generalize byL D = b at *
    generalize enL L = a at *
    generalize uL H = q at *
    simp -implicitDefEqProofs (maxSteps := 1000000) (disch := first | omega | rfl) [m4, h9, h10, h22, box, KS, getS, getO, gS, zipN, dropW, takeW, wds, stvs, sea, seaL, refs, refsL, refsEls, refsO, isPureEls, isPures, isPure, noExt, noExts, noExtEls, cellsL, ren, renL, renEls, keepO, keepS, keysO, refsS, refsOB, cntN, headC, setS, boxO, row, putW, putB, putB1, eNl, newOs, frz, renO, noExtO, zps, zp, two32, w64, -getElem?_pos]
  case true =>
  rw [hm] at h22
  obtain ⟨el, og⟩ := mayG_eq hm hr ho
  generalize hcc : l.1.1 = c at *
  generalize hLL : l.2.1 = L at *
  rw [el] at h10 h22 ⊢
  clear el hm hcc hLL hh hr f2 l
  have h11 := V11a 0 1 (gL c L) e urg (by exact hc) (by simp only [gL, recL_len]; omega) (by simp only [gL]; omega) og.2.1 he (gL_hd _ _)
  rw [addR_gL og] at h11
  by_cases hd : ∃ d : Int, d ≠ 0 ∧ (cond (mayE e) (cond (decide ((L.length : Int) < slots c) && (!(waitN (gL c L) == 0) || urg)) (gL c (L ++ [e]), 0) (gL c L, 12)) (gL c L, 1) : Lo × Int) = (gL c L, d)
  · obtain ⟨d, hd0, hd1⟩ := hd
    rw [hd1] at h11
    have d1 : (d != 0) = true := by simpa using hd0
    have d2 : (d == 0) = false := by simpa using hd0
    have h13 := V13o 0 2 (gL c L).1 (by simp only [gL, recL_len]; omega) (gL_R _ _)
    rw [mayS_gL og, cond_true, openL_gL og] at h13
    have h23 := V23g 0 10 (gL c L) (gL c L) (by simp only [gL]; omega) (gL_hd _ _) (gL_hd _ _)
    rw [sameG_self] at h23
    have ul := uL_len (hdL h0 L)
    rw [hdL_len _ _ h0_len] at ul
    simp only [loR, gL, loC, soC] at h10 h11 h13 h22 h23 ⊢
    obtain ⟨e1, e2, e3, e4, e5, e6, e7, e8, e9⟩ := e
    simp only [enC] at h11 ⊢
    clear hd1
    generalize byL (recL h0 L) = b at *
    generalize enL L = a at *
    generalize uL (hdL h0 L) = q at *
    generalize ((62 * L.length : Nat) : Int) = u at *
    generalize hz' : List.replicate 32 (PV.i .u8 0) = zz at *
    simp -implicitDefEqProofs (maxSteps := 1000000) (disch := first | omega | rfl) [m4, h9, h10, h11, h13, h22, h23, d1, d2, ul, hz', hzl, box, KS, getS, getO, gS, zipN, dropW, takeW, wds, stvs, sea, seaL, refs, refsL, refsEls, refsO, isPureEls, isPures, isPure, noExt, noExts, noExtEls, cellsL, ren, renL, renEls, keepO, keepS, keysO, refsS, refsOB, cntN, headC, setS, boxO, row, putW, putB, putB1, eNl, newOs, frz, renO, noExtO, zps, zp, two32, w64, -getElem?_pos]
  · have hme : mayE e = true := by
      cases hme : mayE e
      · exact absurd ⟨1, by decide, by rw [hme]; rfl⟩ hd
      · rfl
    have hrm : (decide ((L.length : Int) < slots c) && (!(waitN (gL c L) == 0) || urg)) = true := by
      cases hrm : (decide ((L.length : Int) < slots c) && (!(waitN (gL c L) == 0) || urg))
      · exact absurd ⟨12, by decide, by rw [hme, hrm]; rfl⟩ hd
      · rfl
    rw [hme, hrm, cond_true, cond_true] at h11
    have hlt : (L.length : Int) < slots c := by
      rw [Bool.and_eq_true, decide_eq_true_eq] at hrm; exact hrm.1
    have og1 := okG_more og hme he hlt
    have h13 := V13o 0 2 (gL c (L ++ [e])).1 (by simp only [gL, recL_len, List.length_append, List.length_singleton]; omega) (gL_R _ _)
    rw [mayS_gL og1, cond_true, openL_gL og1] at h13
    have h23 := V23g 0 10 (gL c (L ++ [e])) (gL c (L ++ [e])) (by simp only [gL, List.length_append, List.length_singleton]; omega) (gL_hd _ _) (gL_hd _ _)
    rw [sameG_self] at h23
    have h22' := V22g 0 3 (gL c (L ++ [e])) (by simp only [gL, List.length_append, List.length_singleton]; omega) og1.2.1 (gL_hd _ _)
    rw [mayG_gL og1] at h22'
    have h26 := V37 0 11 L L (by omega)
    rw [sameL_self] at h26
    have ul := uL_len (hdL h0 (L ++ [e]))
    rw [hdL_len _ _ h0_len] at ul
    have ea : enL (L ++ [e]) = enL L ++ [enC e] := by simp [enL]
    have ew := enL_len L
    have gx : (enL L ++ [enC e])[L.length]? = some (enC e) := by
      rw [List.getElem?_append_right (by omega), ew, Nat.sub_self]; rfl
    have tx : List.take L.length (enL L ++ [enC e]) = enL L := by
      rw [List.take_append_of_le_length (by omega), List.take_of_length_le (by omega)]
    have wx : allW 9 (enL L ++ [enC e]) = true := by rw [← ea]; exact allW_en _
    have lx : (enL L ++ [enC e]).length = L.length + 1 := by simp [ew]
    have bl := byL_len (recL h0 (L ++ [e]))
    rw [recL_len] at bl
    have hk := k_est false e e
    rw [(eqE_iff e e).2 rfl] at hk
    have le3 : (L.length : Int) ≤ (L.length : Int) + 1 := by omega
    have w1 : IntKind.i64.wrap ((L.length : Int) + 1) = (L.length : Int) + 1 := w64 (by omega) (by omega)
    have w2 : IntKind.i64.wrap (62 * ((L.length : Int) + 1)) = ((62 * (L ++ [e]).length : Nat) : Int) := by
      rw [w64 (by omega) (by omega), List.length_append, List.length_singleton]; omega
    simp only [loR, gL, loC, soC, ea] at h10 h11 h13 h22 h22' h23 ⊢
    generalize 62 * (L ++ [e]).length = n2 at *
    generalize byL (recL h0 (L ++ [e])) = b2 at *
    generalize uL (hdL h0 (L ++ [e])) = q2 at *
    generalize byL (recL h0 L) = b at *
    generalize enL L = a at *
    generalize uL (hdL h0 L) = q at *
    generalize ((62 * L.length : Nat) : Int) = u at *
    generalize L.length = n at *
    clear hd hrm ea og og1
    obtain ⟨e1, e2, e3, e4, e5, e6, e7, e8, e9⟩ := e
    simp only [enC] at h11 h13 h22' h23 hk gx tx wx lx ⊢
    generalize hz' : List.replicate 32 (PV.i .u8 0) = zz at *
    simp -implicitDefEqProofs (maxSteps := 1000000) (disch := first | omega | rfl) [m4, h9, h10, h11, h13, h22, h22', h23, h26, ul, ew, gx, tx, wx, lx, bl, hk, le3, w1, w2, hz', hzl, box, KS, getS, getO, gS, zipN, dropW, takeW, wds, stvs, sea, seaL, refs, refsL, refsEls, refsO, isPureEls, isPures, isPure, noExt, noExts, noExtEls, cellsL, ren, renL, renEls, keepO, keepS, keysO, refsS, refsOB, cntN, headC, setS, boxO, row, putW, putB, putB1, eNl, newOs, frz, renO, noExtO, zps, zp, two32, w64, -getElem?_pos]
theorem Pure.AuditAdds (us : List PV) (h : TyAll Tryd.prog 8 [29, 33, 4] us) : ∃ N d out, sem tab N d 4 us [] = some (.b true, out) := by
  simp only [TyAll] at h
  obtain ⟨v0, _, rfl, h0, v1, _, rfl, h1, v2, _, rfl, h2, rfl⟩ := h
  obtain ⟨l, hl, rfl⟩ := log_of h0
  obtain ⟨e, he, rfl⟩ := entry_of h1
  obtain ⟨x, rfl⟩ := bool_of h2
  obtain ⟨out, h⟩ := adds_law l e x hl he
  exact ⟨_, _, out, h⟩
end Go.Proofs.YtmhpkdcnhgmblaaDoor
