/- Behind a crash in the midst of adding the log has all that it had: the plain law. -/
import Derived.Test.YtmhpkdcnhgmblaaDoorPgD
set_option linter.all false
set_option linter.unusedSimpArgs false
set_option linter.unusedVariables false
namespace Go.Proofs.YtmhpkdcnhgmblaaDoor
open Go
theorem torn_open (c : Int) (L : List En) (e : En) (k : Int) (og : okG c L) (he : okE e) (hme : mayE e = true) (hlt : (L.length : Int) < slots c) :
    mayS (tornS (gL c L) e k) = true ∧ openL (tornS (gL c L) e k) = cond (decide (k < 62)) (gL c L) (gL c (L ++ [e])) ∧ byR (tornS (gL c L) e k).2.1 ∧ (tornS (gL c L) e k).2.1.length ≤ 50000 := by
  have og1 := okG_more og hme he hlt
  have rl : (encB e ++ linkH (hdL h0 L) e).length = 62 := by simp [encB_len, linkH_len]
  have ll := recL_len L h0
  have e0 : tornS (gL c L) e k = crS (c, recL h0 L ++ (encB e ++ linkH (hdL h0 L) e), ((62 * L.length : Nat) : Int)) k := by
    rw [tornS, mayG_gL og, hme]
    rw [show decide (((gL c L).2.1.length : Int) < slots (gL c L).1.1) = true from decide_eq_true hlt]
    rfl
  have hmax : c ≤ 16384 := og.2.2.2.1
  have hc62 : ((62 * (L ++ [e]).length : Nat) : Int) ≤ c := og1.2.2.2.2
  rw [List.length_append, List.length_singleton] at hc62
  have al : (recL h0 L ++ (encB e ++ linkH (hdL h0 L) e)).length = 62 * L.length + 62 := by rw [List.length_append, ll, rl]
  have ms : mayS (c, recL h0 L ++ (encB e ++ linkH (hdL h0 L) e), ((62 * L.length : Nat) : Int)) = true := by
    have a1 : decide ((0 : Int) ≤ c) = true := decide_eq_true og.2.2.1
    have a2 : decide (c ≤ (16384 : Int)) = true := decide_eq_true hmax
    have a3 : decide (((recL h0 L ++ (encB e ++ linkH (hdL h0 L) e)).length : Int) ≤ c) = true := decide_eq_true (by rw [al]; omega)
    have a4 : decide ((0 : Int) ≤ ((62 * L.length : Nat) : Int)) = true := decide_eq_true (by omega)
    have a5 : decide (((62 * L.length : Nat) : Int) ≤ ((recL h0 L ++ (encB e ++ linkH (hdL h0 L) e)).length : Int)) = true := decide_eq_true (by rw [al]; omega)
    change (decide ((0 : Int) ≤ c) && (decide (c ≤ (16384 : Int)) && (decide (((recL h0 L ++ (encB e ++ linkH (hdL h0 L) e)).length : Int) ≤ c) && (decide ((0 : Int) ≤ ((62 * L.length : Nat) : Int)) && decide (((62 * L.length : Nat) : Int) ≤ ((recL h0 L ++ (encB e ++ linkH (hdL h0 L) e)).length : Int)))))) = true
    rw [a1, a2, a3, a4, a5]; rfl
  have R1 : byR (recL h0 L ++ (encB e ++ linkH (hdL h0 L) e)) := byR_app (recL_R L h0 h0_R) (byR_app (encB_R e) (linkH_R e (hdL_R L h0 h0_R)))
  -- how many bytes more are kept
  obtain ⟨j, hj, hj1⟩ : ∃ j : Nat, max 0 (min k (((recL h0 L ++ (encB e ++ linkH (hdL h0 L) e)).length : Int) - ((62 * L.length : Nat) : Int))) = (j : Int) ∧ (j ≤ 62 ∧ (k < 62 → j < 62) ∧ (¬ k < 62 → j = 62)) := by
    refine ⟨(max 0 (min k (((recL h0 L ++ (encB e ++ linkH (hdL h0 L) e)).length : Int) - ((62 * L.length : Nat) : Int)))).toNat, ?_, ?_⟩
    · rw [Int.toNat_of_nonneg]; omega
    · rw [al]; refine ⟨by omega, fun h => by omega, fun h => by omega⟩
  have e1 : crS (c, recL h0 L ++ (encB e ++ linkH (hdL h0 L) e), ((62 * L.length : Nat) : Int)) k = (c, recL h0 L ++ (encB e ++ linkH (hdL h0 L) e).take j, ((62 * L.length + j : Nat) : Int)) := by
    rw [crS, ms, cond_true, hj]
    have : (((62 * L.length : Nat) : Int) + (j : Int)).toNat = 62 * L.length + j := by omega
    rw [this, List.take_append, ll, show 62 * L.length + j - 62 * L.length = j by omega, List.take_of_length_le (by omega)]
    rfl
  rw [e0, e1]
  have tl : ((encB e ++ linkH (hdL h0 L) e).take j).length = j := by rw [List.length_take, rl]; omega
  have dl : (recL h0 L ++ (encB e ++ linkH (hdL h0 L) e).take j).length = 62 * L.length + j := by rw [List.length_append, ll, tl]
  refine ⟨?_, ?_, byR_app (recL_R L h0 h0_R) (byR_take j (byR_app (encB_R e) (linkH_R e (hdL_R L h0 h0_R)))), ?_⟩
  · have a1 : decide ((0 : Int) ≤ c) = true := decide_eq_true og.2.2.1
    have a2 : decide (c ≤ (16384 : Int)) = true := decide_eq_true hmax
    have a3 : decide (((recL h0 L ++ (encB e ++ linkH (hdL h0 L) e).take j).length : Int) ≤ c) = true := decide_eq_true (by rw [dl]; omega)
    have a4 : decide ((0 : Int) ≤ ((62 * L.length + j : Nat) : Int)) = true := decide_eq_true (by omega)
    have a5 : decide (((62 * L.length + j : Nat) : Int) ≤ ((recL h0 L ++ (encB e ++ linkH (hdL h0 L) e).take j).length : Int)) = true := decide_eq_true (by rw [dl]; exact Int.le_refl _)
    change (decide ((0 : Int) ≤ c) && (decide (c ≤ (16384 : Int)) && (decide (((recL h0 L ++ (encB e ++ linkH (hdL h0 L) e).take j).length : Int) ≤ c) && (decide ((0 : Int) ≤ ((62 * L.length + j : Nat) : Int)) && decide (((62 * L.length + j : Nat) : Int) ≤ ((recL h0 L ++ (encB e ++ linkH (hdL h0 L) e).take j).length : Int)))))) = true
    rw [a1, a2, a3, a4, a5]; rfl
  · by_cases hk : k < 62
    · rw [decide_eq_true hk, cond_true]
      exact openL_rec _ og (by rw [tl]; exact hj1.2.1 hk)
    · rw [decide_eq_false hk, cond_false, hj1.2.2 hk, List.take_of_length_le (by omega), ← recL_app1]
      have := openL_rec (u := ((62 * L.length + 62 : Nat) : Int)) [] og1 (by decide)
      rw [List.append_nil] at this
      exact this
  · rw [dl]; have := og.2.2.2.2; omega
set_option maxHeartbeats 64000000 in
theorem tornA_law (l : Lo) (e : En) (k : Int) (hl : okLo l) (he : okE e) : ∃ out, sem tab 1000 14 5 [.agg (loC false l), .agg (enC e), .i .i64 k] [] = some (.b true, out) := by
  rw [sem_succ tab 1000 13 5 m5 rfl]
  have h9 := awakeA 0 0
  obtain ⟨hc, hr, ho, hh⟩ := hl
  have hzl : (List.replicate 32 (PV.i IntKind.u8 0)).length = 32 := rfl
  have h10 := V10f 1000 12 l
  by_cases f : (decide ((l.2.1.length : Int) ≤ 30) && decide ((l.1.2.1.length : Int) ≤ 2500)) = true
  case neg =>
    rw [show (decide ((l.2.1.length : Int) ≤ 30) && decide ((l.1.2.1.length : Int) ≤ 2500)) = false by simpa using f] at h10
    obtain ⟨⟨c, D, u⟩, L, H⟩ := l
    obtain ⟨e1, e2, e3, e4, e5, e6, e7, e8, e9⟩ := e
    simp only [loC, enC] at h10 ⊢
    generalize byL D = b at *
    generalize enL L = a at *
    generalize uL H = q at *
    simp -implicitDefEqProofs (maxSteps := 1000000) (disch := first | omega | rfl) [m5, h9, h10, box, KS, getS, getO, gS, zipN, dropW, takeW, wds, stvs, sea, seaL, refs, refsL, refsEls, refsO, isPureEls, isPures, isPure, noExt, noExts, noExtEls, cellsL, ren, renL, renEls, keepO, keepS, keysO, refsS, refsOB, cntN, headC, setS, boxO, row, putW, putB, putB1, eNl, newOs, frz, renO, noExtO, zps, zp, two32, w64, -getElem?_pos]
  case pos =>
  rw [f] at h10
  rw [Bool.and_eq_true, decide_eq_true_eq, decide_eq_true_eq] at f
  obtain ⟨f1, f2⟩ := f
  have h22 := V22g 0 3 l (by omega) ho hh
  cases hm : mayG l
  case false =>
    rw [hm] at h22
    obtain ⟨⟨c, D, u⟩, L, H⟩ := l
    obtain ⟨e1, e2, e3, e4, e5, e6, e7, e8, e9⟩ := e
    simp only [loC, enC] at h10 h22 ⊢
    generalize byL D = b at *
    generalize enL L = a at *
    generalize uL H = q at *
    simp -implicitDefEqProofs (maxSteps := 1000000) (disch := first | omega | rfl) [m5, h9, h10, h22, box, KS, getS, getO, gS, zipN, dropW, takeW, wds, stvs, sea, seaL, refs, refsL, refsEls, refsO, isPureEls, isPures, isPure, noExt, noExts, noExtEls, cellsL, ren, renL, renEls, keepO, keepS, keysO, refsS, refsOB, cntN, headC, setS, boxO, row, putW, putB, putB1, eNl, newOs, frz, renO, noExtO, zps, zp, two32, w64, -getElem?_pos]
  case true =>
  rw [hm] at h22
  obtain ⟨el, og⟩ := mayG_eq hm hr ho
  generalize hcc : l.1.1 = c at *
  generalize hLL : l.2.1 = L at *
  rw [el] at h10 h22 ⊢
  clear el hm hcc hLL hh hr f2 l
  have h11 := V11a 0 1 (gL c L) e true (by exact hc) (by simp only [gL, recL_len]; omega) (by simp only [gL]; omega) og.2.1 he (gL_hd _ _)
  rw [addR_gL og, Bool.or_true, Bool.and_true] at h11
  have h19 := V19t 0 1 (gL c L) e k (by exact hc) (by simp only [gL, recL_len]; omega) (by simp only [gL]; omega) og.2.1 he (gL_hd _ _)
  have h23 := V23g 0 10 (gL c L) (gL c L) (by simp only [gL]; omega) (gL_hd _ _) (gL_hd _ _)
  rw [sameG_self] at h23
  have ul := uL_len (hdL h0 L)
  rw [hdL_len _ _ h0_len] at ul
  by_cases hd : (mayE e && decide ((L.length : Int) < slots c)) = true
  case neg =>
    have hd' : (mayE e && decide ((L.length : Int) < slots c)) = false := by simpa using hd
    have ht : tornS (gL c L) e k = (gL c L).1 := by
      rw [tornS, show (mayE e && decide (((gL c L).2.1.length : Int) < slots (gL c L).1.1)) = false from hd', Bool.and_false, cond_false]
    rw [ht] at h19
    have h13 := V13o 0 2 (gL c L).1 (by simp only [gL, recL_len]; omega) (gL_R _ _)
    rw [mayS_gL og, cond_true, openL_gL og] at h13
    obtain ⟨d, hd0, hd1⟩ : ∃ d : Int, d ≠ 0 ∧ (cond (mayE e) (cond (decide ((L.length : Int) < slots c)) (gL c (L ++ [e]), 0) (gL c L, 12)) (gL c L, 1) : Lo × Int) = (gL c L, d) := by
      cases hme : mayE e
      · exact ⟨1, by decide, rfl⟩
      · rw [hme, Bool.true_and] at hd'
        rw [hd']
        exact ⟨12, by decide, rfl⟩
    rw [hd1] at h11
    have d1 : (d != 0) = true := by simpa using hd0
    have d2 : (d == 0) = false := by simpa using hd0
    simp only [loR, gL, loC, soC] at h10 h11 h13 h19 h22 h23 ⊢
    obtain ⟨e1, e2, e3, e4, e5, e6, e7, e8, e9⟩ := e
    simp only [enC] at h11 h19 ⊢
    clear hd1
    generalize byL (recL h0 L) = b at *
    generalize enL L = a at *
    generalize uL (hdL h0 L) = q at *
    generalize ((62 * L.length : Nat) : Int) = u at *
    generalize hz' : List.replicate 32 (PV.i .u8 0) = zz at *
    simp -implicitDefEqProofs (maxSteps := 1000000) (disch := first | omega | rfl) [m5, h9, h10, h11, h13, h19, h22, h23, d1, d2, ul, hz', hzl, box, KS, getS, getO, gS, zipN, dropW, takeW, wds, stvs, sea, seaL, refs, refsL, refsEls, refsO, isPureEls, isPures, isPure, noExt, noExts, noExtEls, cellsL, ren, renL, renEls, keepO, keepS, keysO, refsS, refsOB, cntN, headC, setS, boxO, row, putW, putB, putB1, eNl, newOs, frz, renO, noExtO, zps, zp, two32, w64, -getElem?_pos]
  case pos =>
  rw [Bool.and_eq_true, decide_eq_true_eq] at hd
  obtain ⟨hme, hlt⟩ := hd
  rw [hme, decide_eq_true hlt, cond_true, cond_true] at h11
  obtain ⟨t1, t2, t3, t4⟩ := torn_open c L e k og he hme hlt
  have h13 := V13o 0 2 (tornS (gL c L) e k) t4 t3
  rw [t1, cond_true, t2] at h13
  have og1 := okG_more og hme he hlt
  have h23' := V23g 0 10 (gL c (L ++ [e])) (gL c (L ++ [e])) (by simp only [gL, List.length_append, List.length_singleton]; omega) (gL_hd _ _) (gL_hd _ _)
  rw [sameG_self] at h23'
  have ul' := uL_len (hdL h0 (L ++ [e]))
  rw [hdL_len _ _ h0_len] at ul'
  clear t1 t2 t3 t4
  generalize tornS (gL c L) e k = T at *
  obtain ⟨cT, DT, uT⟩ := T
  by_cases hk : k < 62
  · rw [decide_eq_true hk, cond_true] at h13
    simp only [loR, gL, loC, soC] at h10 h11 h13 h19 h22 h23 ⊢
    generalize byL (recL h0 (L ++ [e])) = b2 at *
    generalize enL (L ++ [e]) = a2 at *
    generalize uL (hdL h0 (L ++ [e])) = q2 at *
    generalize ((62 * (L ++ [e]).length : Nat) : Int) = u2 at *
    generalize byL (recL h0 L) = b at *
    generalize enL L = a at *
    generalize uL (hdL h0 L) = q at *
    generalize ((62 * L.length : Nat) : Int) = u at *
    generalize byL DT = bT at *
    clear og og1 h23'
    obtain ⟨e1, e2, e3, e4, e5, e6, e7, e8, e9⟩ := e
    simp only [enC] at h11 h19 ⊢
    generalize hz' : List.replicate 32 (PV.i .u8 0) = zz at *
    simp -implicitDefEqProofs (maxSteps := 1000000) (disch := first | omega | rfl) [m5, h9, h10, h11, h13, h19, h22, h23, hk, ul, ul', hz', hzl, box, KS, getS, getO, gS, zipN, dropW, takeW, wds, stvs, sea, seaL, refs, refsL, refsEls, refsO, isPureEls, isPures, isPure, noExt, noExts, noExtEls, cellsL, ren, renL, renEls, keepO, keepS, keysO, refsS, refsOB, cntN, headC, setS, boxO, row, putW, putB, putB1, eNl, newOs, frz, renO, noExtO, zps, zp, two32, w64, -getElem?_pos]
  · rw [decide_eq_false hk, cond_false] at h13
    simp only [loR, gL, loC, soC] at h10 h11 h13 h19 h22 h23' ⊢
    generalize byL (recL h0 (L ++ [e])) = b2 at *
    generalize enL (L ++ [e]) = a2 at *
    generalize uL (hdL h0 (L ++ [e])) = q2 at *
    generalize ((62 * (L ++ [e]).length : Nat) : Int) = u2 at *
    generalize byL (recL h0 L) = b at *
    generalize enL L = a at *
    generalize uL (hdL h0 L) = q at *
    generalize ((62 * L.length : Nat) : Int) = u at *
    generalize byL DT = bT at *
    clear og og1 h23
    obtain ⟨e1, e2, e3, e4, e5, e6, e7, e8, e9⟩ := e
    simp only [enC] at h11 h19 ⊢
    generalize hz' : List.replicate 32 (PV.i .u8 0) = zz at *
    simp -implicitDefEqProofs (maxSteps := 1000000) (disch := first | omega | rfl) [m5, h9, h10, h11, h13, h19, h22, h23', hk, ul, ul', hz', hzl, box, KS, getS, getO, gS, zipN, dropW, takeW, wds, stvs, sea, seaL, refs, refsL, refsEls, refsO, isPureEls, isPures, isPure, noExt, noExts, noExtEls, cellsL, ren, renL, renEls, keepO, keepS, keysO, refsS, refsOB, cntN, headC, setS, boxO, row, putW, putB, putB1, eNl, newOs, frz, renO, noExtO, zps, zp, two32, w64, -getElem?_pos]
theorem Pure.AuditTorn (us : List PV) (h : TyAll Tryd.prog 8 [29, 33, 3] us) : ∃ N d out, sem tab N d 5 us [] = some (.b true, out) := by
  simp only [TyAll] at h
  obtain ⟨v0, _, rfl, h0, v1, _, rfl, h1, v2, _, rfl, h2, rfl⟩ := h
  obtain ⟨l, hl, rfl⟩ := log_of h0
  obtain ⟨e, he, rfl⟩ := entry_of h1
  obtain ⟨k, _, _, rfl⟩ := int_of h2
  obtain ⟨out, h⟩ := tornA_law l e k hl he
  exact ⟨_, _, out, h⟩
end Go.Proofs.YtmhpkdcnhgmblaaDoor
