/- The bytes of a frame with a tag are its body, and the tag: the plain law. -/
import Derived.Test.YtmhpkdcnhgmblaaPgC
set_option linter.all false
set_option linter.unusedSimpArgs false
set_option linter.unusedVariables false
namespace Go.Proofs.Ytmhpkdcnhgmblaa
open Go
attribute [local congr] bnd_cg bndO_cg br_cg
theorem front_tag (f : Fra) (t : List Int) : frontF { f with tag := t } = frontF f := rfl
theorem pl_tag (f : Fra) (t : List Int) (h : PlF f) (ht : tagdF f.kind = true) : PlF { f with tag := t } := by
  obtain ⟨h1, h2, h3, h4, h5, h6⟩ := h
  refine ⟨h1, h2, h3, h4, h5, ?_⟩
  obtain ⟨a1, a2, a3, a4, a5, a6, a7, a8, a9⟩ := f
  simp only [tagdF, inB, Bool.and_eq_true, decide_eq_true_eq] at ht
  have hk : a1 = 2 ∨ a1 = 3 ∨ a1 = 4 ∨ a1 = 5 := by omega
  rcases hk with e | e | e | e <;> subst e <;> simp [bareF] at h6 ⊢ <;> exact h6
theorem dec_front (f g : Fra) (hf : okF f) (hg : okF g) (pf : PlF f) (pg : PlF g) (tf : tagdF f.kind = true) (tg : tagdF g.kind = true) : decide (chars (frontF f) = chars (frontF g)) = eqFr { f with tag := g.tag } g := by
  rw [dec_charsF (frontF f) (frontF g) (catB_range (allF f)) (catB_range (allF g))]
  have of : okF { f with tag := g.tag } := ⟨hf.sess, hf.cn, hf.count, hg.tag, hg.tagr⟩
  have e1 : putF { f with tag := g.tag } = frontF f ++ g.tag := by
    unfold putF; rw [front_tag]; show frontF f ++ cond (tagdF f.kind) g.tag [] = _; rw [tf]; rfl
  have e2 : putF g = frontF g ++ g.tag := by unfold putF; rw [tg]; rfl
  by_cases h : frontF f = frontF g
  · have : ({ f with tag := g.tag } : Fra) = g := putF_inj (pl_tag f g.tag pf tf) of pg hg (by rw [e1, e2, h])
    rw [this, eqFr_self]; simp [h]
  · rw [decide_eq_false h]
    symm
    apply eqFr_ne
    intro e
    apply h
    have := congrArg frontF e
    rw [front_tag] at this
    exact this
theorem chars_appF (a b : List Int) : chars (a ++ b) = chars a ++ chars b := by simp [chars]
theorem chars_lenF (a : List Int) : (chars a).length = a.length := by simp [chars]
set_option maxHeartbeats 16000000 in
theorem body_law (f g : Fra) (hf : okF f) (hg : okF g) : sem tab 1000 9 8 [.agg (frC f), .agg (frC g)] [] = some (.b true, []) := by
  rw [sem_succ tab 1000 8 8 m8 rfl]
  have h9 := awake4
  have p1 := V10L f hf
  have q1 := V17L f hf
  have q2 := V17L g hg
  have tp := take_put (putF f)
  have lp := byL_len (putF f)
  have tg := take_put (frontF g)
  have lg := byL_len (frontF g)
  rw [frontF_len] at tg lg
  cases c1 : plainF f && tagdF f.kind
  · rw [c1, cond_false] at q1
    generalize byL (putF f) = x at *
    generalize (putF f).length = n at *
    generalize byL (frontF g) = y at *
    generalize aheadF g.kind = m at *
    generalize plainF f = pl at *
    generalize (plainF g && tagdF g.kind) = pg at *
    clear c1
    obtain ⟨a1, a2, a3, a4, a5, a6, a7, a8, a9⟩ := f
    obtain ⟨b1, b2, b3, b4, b5, b6, b7, b8, b9⟩ := g
    simp only [frC, row] at *
    generalize uL a9 = q at *
    generalize uL b9 = q' at *
    cases pl <;> cases pg <;> simp only [cond_false, cond_true] at p1 q2 <;>
    simp -implicitDefEqProofs (maxSteps := 1000000) (disch := first | omega | rfl) [m8, h9, p1, q1, q2, tp, lp, tg, lg, KVl, boxO, KF, KS, getS, getO, gS, zipN, dropW, takeW, wds, stvs, sea, seaL, refs, refsL, refsEls, refsO, isPureEls, isPures, isPure, noExt, noExts, noExtEls, cellsL, ren, renL, renEls, keepO, keepS, keysO, refsS, refsOB, headC, setS, boxO, row, putW, putB, putB1, eNl, newOs, frz, renO, noExtO, zps, zp, two32, w64, -getElem?_pos, k_cnt, k_cnt0]
  rw [c1, cond_true] at q1
  rw [Bool.and_eq_true] at c1
  obtain ⟨c1, c3⟩ := c1
  rw [c1, cond_true] at p1
  have pf := (plainF_iff f).1 c1
  have tf := take_put (frontF f)
  have lf := byL_len (frontF f)
  rw [frontF_len] at tf lf
  have sp := unB_by (putF f)
  have sf := unB_by (frontF f)
  have su := unB_by f.tag
  have hpc : chars (putF f) = chars (frontF f) ++ chars f.tag := by unfold putF; rw [c3, cond_true, chars_appF]
  rw [hpc] at sp
  have al := aheadF_le f.kind
  have l1 : (chars (frontF f)).length + (chars f.tag).length ≤ 4294967296 := by rw [chars_lenF, chars_lenF, frontF_len, hf.tag]; omega
  have tu0 : (uL f.tag).take 32 = uL f.tag := List.take_of_length_le (by rw [uL_len, hf.tag]; exact Nat.le_refl _)
  have mu := map_uf f.tag
  have ul := uL_len f.tag
  rw [hf.tag] at ul
  have hz : ((aheadF f.kind : Int) == 0) = false := by rw [beq_eq_false_iff_ne]; omega
  have hz0 : 0 < aheadF f.kind := by omega
  have sg := unB_by (frontF g)
  have ag := aheadF_le g.kind
  have ez : ((aheadF g.kind : Int) == 0) = false := by rw [beq_eq_false_iff_ne]; omega
  have ez0 : 0 < aheadF g.kind := by omega
  have hd : plainF g = true → tagdF g.kind = true → decide (chars (frontF f) = chars (frontF g)) = eqFr { f with tag := g.tag } g := fun u v => dec_front f g hf hg pf ((plainF_iff g).1 u) c3 v
  have he := eSt_frn false { f with tag := g.tag } g hg.tag hg.tag
  have ug := uL_len g.tag
  rw [hg.tag] at ug
  clear hpc al pf c1 c3 ag
  generalize byL (putF f) = x at *
  generalize (putF f).length = n at *
  generalize byL (frontF g) = y at *
  generalize aheadF g.kind = m at *
  generalize byL (frontF f) = w at *
  generalize aheadF f.kind = k at *
  generalize chars (frontF f) = s1 at *
  generalize chars (frontF g) = s2 at *
  generalize chars f.tag = s3 at *
  generalize byL f.tag = tt at *
  cases c2 : plainF g && tagdF g.kind
  · rw [c2, cond_false] at q2
    clear he hd
    obtain ⟨a1, a2, a3, a4, a5, a6, a7, a8, a9⟩ := f
    obtain ⟨b1, b2, b3, b4, b5, b6, b7, b8, b9⟩ := g
    simp only [frC, row] at *
    generalize uL a9 = q at *
    generalize uL b9 = q' at *
    simp -implicitDefEqProofs (maxSteps := 1000000) (disch := first | omega | rfl) [m8, h9, p1, q1, q2, tp, lp, tf, lf, sp, sf, su, l1, tu0, mu, ul, hz, hz0, KVl, boxO, KF, KS, getS, getO, gS, zipN, dropW, takeW, wds, stvs, sea, seaL, refs, refsL, refsEls, refsO, isPureEls, isPures, isPure, noExt, noExts, noExtEls, cellsL, ren, renL, renEls, keepO, keepS, keysO, refsS, refsOB, headC, setS, boxO, row, putW, putB, putB1, eNl, newOs, frz, renO, noExtO, zps, zp, two32, w64, -getElem?_pos, k_cnt, k_cnt0]
  · rw [c2, cond_true] at q2
    rw [Bool.and_eq_true] at c2
    have hd := hd c2.1 c2.2
    clear c2
    obtain ⟨a1, a2, a3, a4, a5, a6, a7, a8, a9⟩ := f
    obtain ⟨b1, b2, b3, b4, b5, b6, b7, b8, b9⟩ := g
    generalize eqFr _ _ = e at *
    simp only [frC, row] at *
    generalize uL a9 = q at *
    generalize uL b9 = q' at *
    simp -implicitDefEqProofs (maxSteps := 1000000) (disch := first | omega | rfl) [m8, h9, p1, q1, q2, tp, lp, tf, lf, tg, lg, sp, sf, su, sg, l1, tu0, mu, ul, ug, hz, hz0, ez, ez0, hd, he, KVl, boxO, KF, KS, getS, getO, gS, zipN, dropW, takeW, wds, stvs, sea, seaL, refs, refsL, refsEls, refsO, isPureEls, isPures, isPure, noExt, noExts, noExtEls, cellsL, ren, renL, renEls, keepO, keepS, keysO, refsS, refsOB, headC, setS, boxO, row, putW, putB, putB1, eNl, newOs, frz, renO, noExtO, zps, zp, two32, w64, -getElem?_pos, k_cnt, k_cnt0]
theorem Pure.FrameBody (us : List PV) (h : TyAll Try.prog 8 [26, 26] us) : ∃ N d out, sem tab N d 8 us [] = some (.b true, out) := by
  simp only [TyAll] at h
  obtain ⟨v0, _, rfl, h0, v1, _, rfl, h1, rfl⟩ := h
  obtain ⟨f, hf, rfl⟩ := frame_of h0
  obtain ⟨g, hg, rfl⟩ := frame_of h1
  exact ⟨1000, 9, [], body_law f g hf hg⟩
end Go.Proofs.Ytmhpkdcnhgmblaa
