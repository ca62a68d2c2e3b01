/- With Reserve entries more than those that can wait a log is full: the plain law. -/
import Derived.Test.YtmhpkdcnhgmblaaDoorPgD
set_option linter.all false
set_option linter.unusedSimpArgs false
set_option linter.unusedVariables false
namespace Go.Proofs.YtmhpkdcnhgmblaaDoor
open Go
def sl8 (left i : Int) : SL := [(2, .p 80 0 0 0 none), (3, .p 88 0 0 0 none), (7, .i .i64 left), (8, .i .i64 i)]
def ob8 (g : Bool) (l : Lo) (e : En) : OB := [(80, box (loC g l) 36), (88, box (enC e) 9)]
set_option maxHeartbeats 64000000 in
theorem step8 (k : SL → OB → Option R) (gb : Bool) (c : Int) (L : List En) (e : En) (left i : Int) (og : okG c L) (hl : L.length ≤ 100) (he : okE e) (hme : mayE e = true) (hi : 0 ≤ i ∧ i < 5) (hw : waitN (gL c L) = 0) (hd : ((L.length : Int) < slots c) ↔ (i < left)) :
    ∃ L' : List En, okG c L' ∧ L'.length ≤ L.length + 1 ∧ waitN (gL c L') = 0 ∧ ((L'.length : Int) = L.length + cond (decide (i < left)) 1 0) ∧
      m8b0 (sem tab 1000 13) 1000 [] k (sl8 left i) (ob8 gb (gL c L) e) = k (sl8 left (i + 1)) (ob8 true (gL c L') e) := by
  have hc : okC64 c := by have := og.2.2.1; have := og.2.2.2.1; unfold okC64; omega
  have h11 := V11a 0 1 (gL c L) e true (by exact hc) (by simp only [gL, recL_len]; omega) (by simp only [gL]; omega) og.2.1 he (gL_hd _ _)
  rw [addR_gL og, hme, cond_true, Bool.or_true, Bool.and_true] at h11
  have w1 : IntKind.i64.wrap (i + 1) = i + 1 := w64 (by omega) (by omega)
  have hzl : (List.replicate 32 (PV.i IntKind.u8 0)).length = 32 := rfl
  have i5 := hi.2
  have ul := uL_len (hdL h0 L)
  rw [hdL_len _ _ h0_len] at ul
  have hww : waitN (gL c L) = max 0 (slots c - 4 - L.length) := rfl
  by_cases hr : (L.length : Int) < slots c
  · have il := hd.1 hr
    have og1 := okG_more og hme he hr
    have hw1 : waitN (gL c (L ++ [e])) = 0 := by
      have : waitN (gL c (L ++ [e])) = max 0 (slots c - 4 - ((L ++ [e]).length : Int)) := rfl
      rw [this, List.length_append, List.length_singleton]; rw [hww] at hw; omega
    refine ⟨L ++ [e], og1, by simp, hw1, by rw [decide_eq_true il]; simp, ?_⟩
    rw [decide_eq_true hr, cond_true] at h11
    have h24 := V24r 0 2 (gL c (L ++ [e])) (by exact hc) (by simp only [gL, List.length_append, List.length_singleton]; omega) og1.2.1 (gL_hd _ _)
    rw [roomL, mayG_gL og1, cond_true, hw1] at h24
    have ul2 := uL_len (hdL h0 (L ++ [e]))
    rw [hdL_len _ _ h0_len] at ul2
    clear hw hww hw1 hd
    simp only [loR, gL, loC, sl8, ob8] at h11 h24 ⊢
    generalize byL (recL h0 (L ++ [e])) = b2 at *
    generalize enL (L ++ [e]) = a2 at *
    generalize uL (hdL h0 (L ++ [e])) = q2 at *
    generalize ((62 * (L ++ [e]).length : Nat) : Int) = u2 at *
    generalize byL (recL h0 L) = b at *
    generalize enL L = a at *
    generalize uL (hdL h0 L) = q at *
    generalize ((62 * L.length : Nat) : Int) = u at *
    clear og og1
    obtain ⟨e1, e2, e3, e4, e5, e6, e7, e8, e9⟩ := e
    simp only [enC] at h11 ⊢
    generalize hz' : List.replicate 32 (PV.i .u8 0) = zz at *
    simp -implicitDefEqProofs (maxSteps := 1000000) (disch := first | omega | rfl) [m8b0, h11, h24, w1, i5, il, ul, ul2, hz', hzl, box, KY, KV, KS, getS, getO, gS, zipN, dropW, takeW, wds, stvs, sea, seaL, refs, refsL, refsEls, refsO, isPureEls, isPures, isPure, noExt, noExts, noExtEls, cellsL, ren, renL, renEls, keepO, keepS, keysO, refsS, refsOB, cntN, headC, setS, boxO, row, putW, putB, putB1, eNl, newOs, frz, renO, noExtO, zps, zp, two32, w64, -getElem?_pos]
  · have il : ¬ i < left := fun h => hr (hd.2 h)
    refine ⟨L, og, by omega, hw, by rw [decide_eq_false il]; simp, ?_⟩
    rw [decide_eq_false hr, cond_false] at h11
    have h24 := V24r 0 2 (gL c L) (by exact hc) (by simp only [gL]; omega) og.2.1 (gL_hd _ _)
    rw [roomL, mayG_gL og, cond_true, hw] at h24
    clear hw hww hd
    simp only [loR, gL, loC, sl8, ob8] at h11 h24 ⊢
    generalize byL (recL h0 L) = b at *
    generalize enL L = a at *
    generalize uL (hdL h0 L) = q at *
    generalize ((62 * L.length : Nat) : Int) = u at *
    clear og
    obtain ⟨e1, e2, e3, e4, e5, e6, e7, e8, e9⟩ := e
    simp only [enC] at h11 ⊢
    generalize hz' : List.replicate 32 (PV.i .u8 0) = zz at *
    simp -implicitDefEqProofs (maxSteps := 1000000) (disch := first | omega | rfl) [m8b0, h11, h24, w1, i5, il, ul, hz', hzl, box, KY, KV, KS, getS, getO, gS, zipN, dropW, takeW, wds, stvs, sea, seaL, refs, refsL, refsEls, refsO, isPureEls, isPures, isPure, noExt, noExts, noExtEls, cellsL, ren, renL, renEls, keepO, keepS, keysO, refsS, refsOB, cntN, headC, setS, boxO, row, putW, putB, putB1, eNl, newOs, frz, renO, noExtO, zps, zp, two32, w64, -getElem?_pos]
theorem end8 (Φ : Sem') (N : Nat) (k : SL → OB → Option R) (ob : OB) (left : Int) (h : left ≤ 4) : m8b0 Φ N [] k (sl8 left 5) ob = some (.b true, []) := by
  simp only [sl8]
  simp -implicitDefEqProofs (maxSteps := 1000000) (disch := first | omega | rfl) [m8b0, h, box, KS, getS, getO, gS, zipN, dropW, takeW, wds, stvs, sea, seaL, refs, refsL, refsEls, refsO, isPureEls, isPures, isPure, noExt, noExts, noExtEls, cellsL, ren, renL, renEls, keepO, keepS, keysO, refsS, refsOB, cntN, headC, setS, boxO, row, putW, putB, putB1, eNl, newOs, frz, renO, noExtO, zps, zp, two32, w64, -getElem?_pos]
theorem loop8 (c : Int) (e : En) (left n0 : Int) (he : okE e) (hme : mayE e = true) (h4 : left ≤ 4) (hsl : slots c = n0 + left) (hl0 : 0 ≤ left) : ∀ (k i m : Nat) (gb : Bool) (L : List En), i + k = 5 → okG c L → L.length ≤ 50 + i → waitN (gL c L) = 0 → (L.length : Int) = n0 + min (i : Int) left →
    loopC (m8b0 (sem tab 1000 13) 1000 []) (m + 1 + k) (sl8 left i) (ob8 gb (gL c L) e) = some (.b true, []) := by
  intro k
  induction k with
  | zero =>
    intro i m gb L hi _ _ _ _
    have : i = 5 := by omega
    subst this
    rw [Nat.add_zero, k_loop]
    exact end8 _ _ _ _ left h4
  | succ k ih =>
    intro i m gb L hi og hl hw hn
    rw [← Nat.add_assoc, k_loop]
    obtain ⟨L', g1, g2, g3, g4, g5⟩ := step8 (loopC (m8b0 (sem tab 1000 13) 1000 []) (m + 1 + k)) gb c L e left i og (by omega) he hme (by omega) hw (by constructor <;> intro h <;> omega)
    rw [g5, show (i : Int) + 1 = ((i + 1 : Nat) : Int) by omega]
    refine ih (i + 1) m true L' (by omega) g1 (by omega) g3 ?_
    rw [g4, hn]
    by_cases c1 : (i : Int) < left
    · rw [decide_eq_true c1, cond_true]; omega
    · rw [decide_eq_false c1, cond_false]; omega
set_option maxHeartbeats 64000000 in
theorem wait_law (l : Lo) (e : En) (hl : okLo l) (he : okE e) : ∃ out, sem tab 1000 14 8 [.agg (loC false l), .agg (enC e)] [] = some (.b true, out) := by
  rw [sem_succ tab 1000 13 8 m8 rfl]
  have h9 := awakeA 0 0
  obtain ⟨hc, hr, ho, hh⟩ := hl
  have hzl : (List.replicate 32 (PV.i IntKind.u8 0)).length = 32 := rfl
  have h10 := V10f 1000 12 l
  by_cases f : (decide ((l.2.1.length : Int) ≤ 30) && decide ((l.1.2.1.length : Int) ≤ 2500)) = true
  case neg =>
    rw [show (decide ((l.2.1.length : Int) ≤ 30) && decide ((l.1.2.1.length : Int) ≤ 2500)) = false by simpa using f] at h10
    obtain ⟨⟨c, D, u⟩, L, H⟩ := l
    obtain ⟨e1, e2, e3, e4, e5, e6, e7, e8, e9⟩ := e
    simp only [loC, enC] at h10 ⊢
    generalize byL D = b at *
    generalize enL L = a at *
    generalize uL H = q at *
    simp -implicitDefEqProofs (maxSteps := 1000000) (disch := first | omega | rfl) [m8, h9, h10, box, KS, getS, getO, gS, zipN, dropW, takeW, wds, stvs, sea, seaL, refs, refsL, refsEls, refsO, isPureEls, isPures, isPure, noExt, noExts, noExtEls, cellsL, ren, renL, renEls, keepO, keepS, keysO, refsS, refsOB, cntN, headC, setS, boxO, row, putW, putB, putB1, eNl, newOs, frz, renO, noExtO, zps, zp, two32, w64, -getElem?_pos]
  case pos =>
  rw [f] at h10
  rw [Bool.and_eq_true, decide_eq_true_eq, decide_eq_true_eq] at f
  obtain ⟨f1, f2⟩ := f
  have h22 := V22g 0 3 l (by omega) ho hh
  cases hm : mayG l
  case false =>
    rw [hm] at h22
    obtain ⟨⟨c, D, u⟩, L, H⟩ := l
    obtain ⟨e1, e2, e3, e4, e5, e6, e7, e8, e9⟩ := e
    simp only [loC, enC] at h10 h22 ⊢
    generalize byL D = b at *
    generalize enL L = a at *
    generalize uL H = q at *
    simp -implicitDefEqProofs (maxSteps := 1000000) (disch := first | omega | rfl) [m8, h9, h10, h22, box, KS, getS, getO, gS, zipN, dropW, takeW, wds, stvs, sea, seaL, refs, refsL, refsEls, refsO, isPureEls, isPures, isPure, noExt, noExts, noExtEls, cellsL, ren, renL, renEls, keepO, keepS, keysO, refsS, refsOB, cntN, headC, setS, boxO, row, putW, putB, putB1, eNl, newOs, frz, renO, noExtO, zps, zp, two32, w64, -getElem?_pos]
  case true =>
  rw [hm] at h22
  obtain ⟨el, og⟩ := mayG_eq hm hr ho
  generalize hcc : l.1.1 = c at *
  generalize hLL : l.2.1 = L at *
  rw [el] at h10 h22 ⊢
  clear el hm hcc hLL hh hr f2 l
  have h29 := V61 1000 11 e
  have ul := uL_len (hdL h0 L)
  rw [hdL_len _ _ h0_len] at ul
  cases hme : mayE e
  case false =>
    rw [hme] at h29
    simp only [gL, loC] at h10 h22 ⊢
    generalize byL (recL h0 L) = b at *
    generalize enL L = a at *
    generalize uL (hdL h0 L) = q at *
    generalize ((62 * L.length : Nat) : Int) = u at *
    obtain ⟨e1, e2, e3, e4, e5, e6, e7, e8, e9⟩ := e
    simp only [enC] at h29 ⊢
    simp -implicitDefEqProofs (maxSteps := 1000000) (disch := first | omega | rfl) [m8, h9, h10, h22, h29, ul, box, KS, getS, getO, gS, zipN, dropW, takeW, wds, stvs, sea, seaL, refs, refsL, refsEls, refsO, isPureEls, isPures, isPure, noExt, noExts, noExtEls, cellsL, ren, renL, renEls, keepO, keepS, keysO, refsS, refsOB, cntN, headC, setS, boxO, row, putW, putB, putB1, eNl, newOs, frz, renO, noExtO, zps, zp, two32, w64, -getElem?_pos]
  case true =>
  rw [hme] at h29
  have h24 := V24r 0 2 (gL c L) (by exact hc) (by simp only [gL]; omega) og.2.1 (gL_hd _ _)
  rw [roomL, mayG_gL og, cond_true] at h24
  by_cases hw : waitN (gL c L) = 0
  case neg =>
    have z1 : (waitN (gL c L) != 0) = true := by simpa using hw
    generalize waitN (gL c L) = wn at *
    simp only [gL, loC] at h10 h22 h24 ⊢
    generalize byL (recL h0 L) = b at *
    generalize enL L = a at *
    generalize uL (hdL h0 L) = q at *
    generalize ((62 * L.length : Nat) : Int) = u at *
    obtain ⟨e1, e2, e3, e4, e5, e6, e7, e8, e9⟩ := e
    simp only [enC] at h29 ⊢
    simp -implicitDefEqProofs (maxSteps := 1000000) (disch := first | omega | rfl) [m8, h9, h10, h22, h24, h29, z1, ul, box, KS, getS, getO, gS, zipN, dropW, takeW, wds, stvs, sea, seaL, refs, refsL, refsEls, refsO, isPureEls, isPures, isPure, noExt, noExts, noExtEls, cellsL, ren, renL, renEls, keepO, keepS, keysO, refsS, refsOB, cntN, headC, setS, boxO, row, putW, putB, putB1, eNl, newOs, frz, renO, noExtO, zps, zp, two32, w64, -getElem?_pos]
  case pos =>
  have hww : waitN (gL c L) = max 0 (slots c - 4 - L.length) := rfl
  have hsp := slots_pos og.2.2.1
  have h5 := og.2.2.2.2
  have hs0 : (L.length : Int) ≤ slots c := by rw [hsp]; omega
  have hs1 : 0 ≤ slots c ∧ slots c ≤ 264 := by rw [hsp]; have := og.2.2.2.1; have := og.2.2.1; omega
  have left4 : slots c - L.length ≤ 4 := by rw [hww] at hw; omega
  have hlp := loop8 c e (slots c - L.length) L.length he hme left4 (by omega) (by omega) 5 0 994 false L rfl og (by omega) hw (by omega)
  rw [show (994 : Nat) + 1 + 5 = 1000 from rfl, k_loop, show ((0 : Nat) : Int) = 0 from rfl] at hlp
  have wq : IntKind.i64.wrap (c.tdiv 62) = slots c := by rw [show c.tdiv 62 = slots c from rfl]; exact w64 (by omega) (by omega)
  have wq2 : IntKind.i64.wrap (c / 62) = slots c := by rw [← hsp]; exact w64 (by omega) (by omega)
  have wl : IntKind.i64.wrap (slots c - (L.length : Int)) = slots c - L.length := w64 (by omega) (by omega)
  rw [hw] at h24
  have ew := enL_len L
  clear hw hww
  rw [← ew] at wl hlp
  simp only [gL, loC, sl8, ob8] at h10 h22 h24 hlp ⊢
  generalize byL (recL h0 L) = b at *
  generalize enL L = a at *
  generalize uL (hdL h0 L) = q at *
  generalize ((62 * L.length : Nat) : Int) = u at *
  generalize slots c = sc at *
  clear og
  obtain ⟨e1, e2, e3, e4, e5, e6, e7, e8, e9⟩ := e
  simp only [enC, box] at h29 hlp ⊢
  simp -implicitDefEqProofs (maxSteps := 1000000) (disch := first | omega | rfl) [m8, h9, h10, h22, h24, h29, wq, wq2, wl, ul, hlp, box, KS, getS, getO, gS, zipN, dropW, takeW, wds, stvs, sea, seaL, refs, refsL, refsEls, refsO, isPureEls, isPures, isPure, noExt, noExts, noExtEls, cellsL, ren, renL, renEls, keepO, keepS, keysO, refsS, refsOB, cntN, headC, setS, boxO, row, putW, putB, putB1, eNl, newOs, frz, renO, noExtO, zps, zp, two32, w64, -getElem?_pos]
theorem Pure.AuditWait (us : List PV) (h : TyAll Tryd.prog 8 [29, 33] us) : ∃ N d out, sem tab N d 8 us [] = some (.b true, out) := by
  simp only [TyAll] at h
  obtain ⟨v0, _, rfl, h0, v1, _, rfl, h1, rfl⟩ := h
  obtain ⟨l, hl, rfl⟩ := log_of h0
  obtain ⟨e, he, rfl⟩ := entry_of h1
  obtain ⟨out, h⟩ := wait_law l e hl he
  exact ⟨_, _, out, h⟩
end Go.Proofs.YtmhpkdcnhgmblaaDoor
