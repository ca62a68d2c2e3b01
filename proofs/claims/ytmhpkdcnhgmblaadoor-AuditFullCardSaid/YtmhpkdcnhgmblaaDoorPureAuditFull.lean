/- As long as there is room an entry is taken: the plain law. -/
import Derived.Test.YtmhpkdcnhgmblaaDoorPgD
set_option linter.all false
set_option linter.unusedSimpArgs false
set_option linter.unusedVariables false
namespace Go.Proofs.YtmhpkdcnhgmblaaDoor
open Go
set_option maxHeartbeats 64000000 in
theorem full_law (l : Lo) (e : En) (hl : okLo l) (he : okE e) : ∃ out, sem tab 1000 14 7 [.agg (loC false l), .agg (enC e)] [] = some (.b true, out) := by
  rw [sem_succ tab 1000 13 7 m7 rfl]
  have h9 := awakeA 0 0
  obtain ⟨hc, hr, ho, hh⟩ := hl
  have hzl : (List.replicate 32 (PV.i IntKind.u8 0)).length = 32 := rfl
  have h10 := V10f 1000 12 l
  by_cases f : (decide ((l.2.1.length : Int) ≤ 30) && decide ((l.1.2.1.length : Int) ≤ 2500)) = true
  case neg =>
    rw [show (decide ((l.2.1.length : Int) ≤ 30) && decide ((l.1.2.1.length : Int) ≤ 2500)) = false by simpa using f] at h10
    obtain ⟨⟨c, D, u⟩, L, H⟩ := l
    obtain ⟨e1, e2, e3, e4, e5, e6, e7, e8, e9⟩ := e
    simp only [loC, enC] at h10 ⊢
    generalize byL D = b at *
    generalize enL L = a at *
    generalize uL H = q at *
    simp -implicitDefEqProofs (maxSteps := 1000000) (disch := first | omega | rfl) [m7, h9, h10, box, KS, getS, getO, gS, zipN, dropW, takeW, wds, stvs, sea, seaL, refs, refsL, refsEls, refsO, isPureEls, isPures, isPure, noExt, noExts, noExtEls, cellsL, ren, renL, renEls, keepO, keepS, keysO, refsS, refsOB, cntN, headC, setS, boxO, row, putW, putB, putB1, eNl, newOs, frz, renO, noExtO, zps, zp, two32, w64, -getElem?_pos]
  case pos =>
  rw [f] at h10
  rw [Bool.and_eq_true, decide_eq_true_eq, decide_eq_true_eq] at f
  obtain ⟨f1, f2⟩ := f
  have h22 := V22g 0 3 l (by omega) ho hh
  have h29 := V61 1000 11 e
  cases hm : mayG l
  case false =>
    rw [hm] at h22
    obtain ⟨⟨c, D, u⟩, L, H⟩ := l
    obtain ⟨e1, e2, e3, e4, e5, e6, e7, e8, e9⟩ := e
    simp only [loC, enC] at h10 h22 ⊢
    generalize byL D = b at *
    generalize enL L = a at *
    generalize uL H = q at *
    simp -implicitDefEqProofs (maxSteps := 1000000) (disch := first | omega | rfl) [m7, h9, h10, h22, box, KS, getS, getO, gS, zipN, dropW, takeW, wds, stvs, sea, seaL, refs, refsL, refsEls, refsO, isPureEls, isPures, isPure, noExt, noExts, noExtEls, cellsL, ren, renL, renEls, keepO, keepS, keysO, refsS, refsOB, cntN, headC, setS, boxO, row, putW, putB, putB1, eNl, newOs, frz, renO, noExtO, zps, zp, two32, w64, -getElem?_pos]
  case true =>
  rw [hm] at h22
  cases hme : mayE e
  case false =>
    rw [hme] at h29
    obtain ⟨⟨c, D, u⟩, L, H⟩ := l
    obtain ⟨e1, e2, e3, e4, e5, e6, e7, e8, e9⟩ := e
    simp only [loC, enC] at h10 h22 h29 ⊢
    generalize byL D = b at *
    generalize enL L = a at *
    generalize uL H = q at *
    simp -implicitDefEqProofs (maxSteps := 1000000) (disch := first | omega | rfl) [m7, h9, h10, h22, h29, box, KS, getS, getO, gS, zipN, dropW, takeW, wds, stvs, sea, seaL, refs, refsL, refsEls, refsO, isPureEls, isPures, isPure, noExt, noExts, noExtEls, cellsL, ren, renL, renEls, keepO, keepS, keysO, refsS, refsOB, cntN, headC, setS, boxO, row, putW, putB, putB1, eNl, newOs, frz, renO, noExtO, zps, zp, two32, w64, -getElem?_pos]
  case true =>
  rw [hme] at h29
  obtain ⟨el, og⟩ := mayG_eq hm hr ho
  generalize hcc : l.1.1 = c at *
  generalize hLL : l.2.1 = L at *
  rw [el] at h10 h22 ⊢
  clear el hm hcc hLL hh hr f2 l
  have h11 := V11a 0 1 (gL c L) e false (by exact hc) (by simp only [gL, recL_len]; omega) (by simp only [gL]; omega) og.2.1 he (gL_hd _ _)
  have h11' := V11a 0 1 (gL c L) e true (by exact hc) (by simp only [gL, recL_len]; omega) (by simp only [gL]; omega) og.2.1 he (gL_hd _ _)
  rw [addR_gL og, hme, cond_true, Bool.or_false] at h11
  rw [addR_gL og, hme, cond_true, Bool.or_true, Bool.and_true] at h11'
  have h24 := V24r 0 2 (gL c L) (by exact hc) (by simp only [gL]; omega) og.2.1 (gL_hd _ _)
  rw [roomL, mayG_gL og, cond_true] at h24
  have hw : waitN (gL c L) = max 0 (slots c - 4 - L.length) := rfl
  have hsp := slots_pos og.2.2.1
  have hs1 : 0 ≤ slots c ∧ slots c ≤ 264 := by rw [hsp]; have := og.2.2.2.1; have := og.2.2.1; omega
  have wq : IntKind.i64.wrap (c.tdiv 62) = slots c := by rw [show c.tdiv 62 = slots c from rfl]; exact w64 (by omega) (by omega)
  have wq2 : IntKind.i64.wrap (c / 62) = slots c := by rw [← hsp]; exact w64 (by omega) (by omega)
  have ew : (enL L).length = L.length := enL_len L
  by_cases hn : 0 < waitN (gL c L)
  · have hlt : (L.length : Int) < slots c := by rw [hw] at hn; omega
    have z0 : (waitN (gL c L) == 0) = false := by rw [beq_eq_false_iff_ne]; omega
    rw [z0, decide_eq_true hlt] at h11
    rw [decide_eq_true hlt] at h11'
    simp only [Bool.not_false, Bool.and_true, cond_true] at h11 h11'
    have og1 := okG_more og hme he hlt
    have h23 := V23g 0 10 (gL c (L ++ [e])) (gL c (L ++ [e])) (by simp only [gL, List.length_append, List.length_singleton]; omega) (gL_hd _ _) (gL_hd _ _)
    rw [sameG_self] at h23
    have h24' := V24r 0 2 (gL c (L ++ [e])) (by exact hc) (by simp only [gL, List.length_append, List.length_singleton]; omega) og1.2.1 (gL_hd _ _)
    rw [roomL, mayG_gL og1, cond_true] at h24'
    have hw' : waitN (gL c (L ++ [e])) = waitN (gL c L) - 1 := by
      have : waitN (gL c (L ++ [e])) = max 0 (slots c - 4 - ((L ++ [e]).length : Int)) := rfl
      rw [this, hw]
      rw [hw] at hn
      simp only [List.length_append, List.length_singleton]
      omega
    rw [hw'] at h24'
    have w1 : IntKind.i64.wrap (waitN (gL c L) - 1) = waitN (gL c L) - 1 := w64 (by omega) (by rw [hw]; omega)
    have w2 : IntKind.i64.wrap (slots c - 4) = slots c - 4 := w64 (by omega) (by omega)
    have w3 : IntKind.i64.wrap (slots c - 4 - (L.length : Int)) = waitN (gL c L) := by rw [w64 (by omega) (by omega), hw]; rw [hw] at hn; omega
    have n1 : waitN (gL c L) > 0 := hn
    have n2 : (0 : Int) ≤ waitN (gL c L) := by omega
    have n3 : waitN (gL c L) ≤ 264 := by rw [hw]; omega
    have ul := uL_len (hdL h0 (L ++ [e]))
    rw [hdL_len _ _ h0_len] at ul
    rw [← ew] at w3 hlt
    generalize waitN (gL c L) = n at *
    simp only [loR, gL, loC] at h10 h11 h11' h22 h23 h24 h24' ⊢
    obtain ⟨e1, e2, e3, e4, e5, e6, e7, e8, e9⟩ := e
    simp only [enC] at h11 h11' h29 ⊢
    generalize byL (recL h0 (L ++ _)) = b2 at *
    generalize enL (L ++ _) = a2 at *
    generalize uL (hdL h0 (L ++ _)) = q2 at *
    generalize ((62 * (L ++ _).length : Nat) : Int) = u2 at *
    generalize byL (recL h0 L) = b at *
    generalize enL L = a at *
    generalize uL (hdL h0 L) = q at *
    generalize ((62 * L.length : Nat) : Int) = u at *
    generalize slots c = sc at *
    generalize hz' : List.replicate 32 (PV.i .u8 0) = zz at *
    simp -implicitDefEqProofs (maxSteps := 1000000) (disch := first | omega | rfl) [m7, h9, h10, h11, h11', h22, h23, h24, h24', h29, wq, wq2, w1, w2, w3, z0, hn, n1, n2, n3, hlt, ul, hz', hzl, box, KS, getS, getO, gS, zipN, dropW, takeW, wds, stvs, sea, seaL, refs, refsL, refsEls, refsO, isPureEls, isPures, isPure, noExt, noExts, noExtEls, cellsL, ren, renL, renEls, keepO, keepS, keysO, refsS, refsOB, cntN, headC, setS, boxO, row, putW, putB, putB1, eNl, newOs, frz, renO, noExtO, zps, zp, two32, w64, -getElem?_pos]
  · have hn0 : waitN (gL c L) = 0 := by rw [hw] at hn ⊢; omega
    rw [hn0] at h24
    have z0 : (waitN (gL c L) == 0) = true := by rw [hn0]; rfl
    rw [z0, Bool.not_true, Bool.and_false, cond_false] at h11
    have ul := uL_len (hdL h0 L)
    rw [hdL_len _ _ h0_len] at ul
    have ul2 := uL_len (hdL h0 (L ++ [e]))
    rw [hdL_len _ _ h0_len] at ul2
    clear z0 hn0 hw hn
    by_cases hlt : (L.length : Int) < slots c
    · rw [decide_eq_true hlt, cond_true] at h11'
      rw [← ew] at hlt
      simp only [loR, gL, loC] at h10 h11 h11' h22 h24 ⊢
      obtain ⟨e1, e2, e3, e4, e5, e6, e7, e8, e9⟩ := e
      simp only [enC] at h11 h11' h29 ⊢
      generalize byL (recL h0 (L ++ _)) = b2 at *
      generalize enL (L ++ _) = a2 at *
      generalize uL (hdL h0 (L ++ _)) = q2 at *
      generalize ((62 * (L ++ _).length : Nat) : Int) = u2 at *
      generalize byL (recL h0 L) = b at *
      generalize enL L = a at *
      generalize uL (hdL h0 L) = q at *
      generalize ((62 * L.length : Nat) : Int) = u at *
      generalize slots c = sc at *
      generalize hz' : List.replicate 32 (PV.i .u8 0) = zz at *
      simp -implicitDefEqProofs (maxSteps := 1000000) (disch := first | omega | rfl) [m7, h9, h10, h11, h11', h22, h24, h29, wq, wq2, hlt, ul, ul2, hz', hzl, box, KS, getS, getO, gS, zipN, dropW, takeW, wds, stvs, sea, seaL, refs, refsL, refsEls, refsO, isPureEls, isPures, isPure, noExt, noExts, noExtEls, cellsL, ren, renL, renEls, keepO, keepS, keysO, refsS, refsOB, cntN, headC, setS, boxO, row, putW, putB, putB1, eNl, newOs, frz, renO, noExtO, zps, zp, two32, w64, -getElem?_pos]
    · rw [decide_eq_false hlt, cond_false] at h11'
      rw [← ew] at hlt
      simp only [loR, gL, loC] at h10 h11 h11' h22 h24 ⊢
      obtain ⟨e1, e2, e3, e4, e5, e6, e7, e8, e9⟩ := e
      simp only [enC] at h11 h11' h29 ⊢
      generalize byL (recL h0 L) = b at *
      generalize enL L = a at *
      generalize uL (hdL h0 L) = q at *
      generalize ((62 * L.length : Nat) : Int) = u at *
      generalize slots c = sc at *
      generalize hz' : List.replicate 32 (PV.i .u8 0) = zz at *
      simp -implicitDefEqProofs (maxSteps := 1000000) (disch := first | omega | rfl) [m7, h9, h10, h11, h11', h22, h24, h29, wq, wq2, hlt, ul, hz', hzl, box, KS, getS, getO, gS, zipN, dropW, takeW, wds, stvs, sea, seaL, refs, refsL, refsEls, refsO, isPureEls, isPures, isPure, noExt, noExts, noExtEls, cellsL, ren, renL, renEls, keepO, keepS, keysO, refsS, refsOB, cntN, headC, setS, boxO, row, putW, putB, putB1, eNl, newOs, frz, renO, noExtO, zps, zp, two32, w64, -getElem?_pos]
theorem Pure.AuditFull (us : List PV) (h : TyAll Tryd.prog 8 [29, 33] us) : ∃ N d out, sem tab N d 7 us [] = some (.b true, out) := by
  simp only [TyAll] at h
  obtain ⟨v0, _, rfl, h0, v1, _, rfl, h1, rfl⟩ := h
  obtain ⟨l, hl, rfl⟩ := log_of h0
  obtain ⟨e, he, rfl⟩ := entry_of h1
  obtain ⟨out, h⟩ := full_law l e hl he
  exact ⟨_, _, out, h⟩
end Go.Proofs.YtmhpkdcnhgmblaaDoor
