/- Chains tell what the document tells: the plain law. -/
import Derived.Test.YtcimkkcajkmfoaaDoorPgD
set_option linter.all false
set_option linter.unusedSimpArgs false
set_option linter.unusedVariables false
set_option maxRecDepth 100000
namespace Go.Proofs.YtcimkkcajkmfoaaDoor
open Go
/-- Both answers of two lists. -/
theorem clash_both (a b : List En) (oa : ∀ e ∈ a, okE e) (ob : ∀ e ∈ b, okE e) : (clashR a b = outCl none ∧ clashS a b = outCl none) ∨ ∃ x y, clashR a b = outCl (some (x, y)) ∧ clashS a b = outZ (some (x, y)) := by
  unfold clashR clashS
  by_cases hg : (a.all mayE && (b.all mayE && decide (hdL h0 a = hdL h0 b))) = true
  · rw [hg, cond_true]
    simp only [Bool.and_eq_true, decide_eq_true_eq] at hg
    obtain ⟨ma, mb, hh⟩ := hg
    have ci := clash_ind a b ma mb oa ob a.length b.length (Nat.le_refl _) (Nat.le_refl _) (by rw [List.take_length, List.take_length]; exact hh)
    rw [List.take_length, List.take_length] at ci
    rcases ci with ⟨g1, g2⟩ | ⟨x, y, g1, g2, _⟩
    · rw [g1, (sameL_iff a b).2 g2]
      exact .inl ⟨rfl, by simp⟩
    · have hs : sameL a b = false := by
        cases hs : sameL a b
        · rfl
        · exact absurd ((sameL_iff a b).1 hs) g2
      rw [g1, hs, ma, mb, decide_eq_true hh]
      exact .inr ⟨x, y, rfl, rfl⟩
  · have hg' : (a.all mayE && (b.all mayE && decide (hdL h0 a = hdL h0 b))) = false := by simpa using hg
    refine .inl ⟨by rw [hg']; rfl, ?_⟩
    generalize a.all mayE = ma at *
    generalize b.all mayE = mb at *
    generalize decide (hdL h0 a = hdL h0 b) = q at *
    cases ma <;> cases mb <;> cases q <;> first | rfl | simp at hg'
set_option maxHeartbeats 64000000 in
theorem chainTells_law (a b : List En) (id : List Int) (e : En) (bs : List Int) (oa : ∀ e ∈ a, okE e) (obb : ∀ e ∈ b, okE e) (hid : id.length = 32) (hir : byR id) (oe : okE e) (hr : byR bs) : ∃ out, sem tab 1000 12 13 [.l false (enL a), .l false (enL b), .agg [.blob 32 (uL id)], .agg (enC e), .l false (byL bs)] [] = some (.b true, out) := by
  rw [sem_succ tab 1000 11 13 m13 rfl]
  have h30 := awakeC 0 0
  have ea := enL_len a
  have eb := enL_len b
  have bl := byL_len bs
  have il := uL_len id
  rw [hid] at il
  by_cases f : (a.length : Int) > 20
  · have f' : 20 < (a.length : Int) := f
    rw [← ea] at f f'
    generalize enL a = xa at *
    generalize enL b = xb at *
    generalize byL bs = by' at *
    obtain ⟨e1, e2, e3, e4, e5, e6, e7, e8, e9⟩ := e
    simp only [enC]
    simp -implicitDefEqProofs (maxSteps := 1000000) (disch := first | omega | rfl) [m13, h30, f, f', il, box, KS, getS, getO, gS, zipN, dropW, takeW, wds, stvs, sea, seaL, refs, refsL, refsEls, refsO, isPureEls, isPures, isPure, noExt, noExts, noExtEls, cellsL, ren, renL, renEls, keepO, keepS, keysO, refsS, refsOB, cntN, headC, setS, boxO, row, putW, putB, putB1, eNl, newOs, frz, renO, noExtO, zps, zp, two32, w64, -getElem?_pos]
  have f' : ¬ 20 < (a.length : Int) := f
  by_cases g : (b.length : Int) > 20
  · have g' : 20 < (b.length : Int) := g
    rw [← ea] at f f'
    rw [← eb] at g g'
    generalize enL a = xa at *
    generalize enL b = xb at *
    generalize byL bs = by' at *
    obtain ⟨e1, e2, e3, e4, e5, e6, e7, e8, e9⟩ := e
    simp only [enC]
    simp -implicitDefEqProofs (maxSteps := 1000000) (disch := first | omega | rfl) [m13, h30, f, f', g, g', il, box, KS, getS, getO, gS, zipN, dropW, takeW, wds, stvs, sea, seaL, refs, refsL, refsEls, refsO, isPureEls, isPures, isPure, noExt, noExts, noExtEls, cellsL, ren, renL, renEls, keepO, keepS, keysO, refsS, refsOB, cntN, headC, setS, boxO, row, putW, putB, putB1, eNl, newOs, frz, renO, noExtO, zps, zp, two32, w64, -getElem?_pos]
  have g' : ¬ 20 < (b.length : Int) := g
  by_cases r : (bs.length : Int) > 1500
  · have r' : 1500 < (bs.length : Int) := r
    rw [← ea] at f f'
    rw [← eb] at g g'
    rw [← bl] at r r'
    generalize enL a = xa at *
    generalize enL b = xb at *
    generalize byL bs = by' at *
    obtain ⟨e1, e2, e3, e4, e5, e6, e7, e8, e9⟩ := e
    simp only [enC]
    simp -implicitDefEqProofs (maxSteps := 1000000) (disch := first | omega | rfl) [m13, h30, f, f', g, g', r, r', il, box, KS, getS, getO, gS, zipN, dropW, takeW, wds, stvs, sea, seaL, refs, refsL, refsEls, refsO, isPureEls, isPures, isPure, noExt, noExts, noExtEls, cellsL, ren, renL, renEls, keepO, keepS, keysO, refsS, refsOB, cntN, headC, setS, boxO, row, putW, putB, putB1, eNl, newOs, frz, renO, noExtO, zps, zp, two32, w64, -getElem?_pos]
  have r' : ¬ 1500 < (bs.length : Int) := r
  have rle : 62 * (rdL bs).length ≤ bs.length := by
    have := (rd_spec 264 h0 bs hr).2.2.2.1
    rw [show goodS (stepsL 264 h0 bs) = rdS bs from rfl] at this
    rw [rdL, List.length_map]; exact this
  have h32 := V32 0 2 a (by omega) oa
  have h38 := V38 0 4 a (by omega) oa
  have h36 := V36 0 3 id e hid oe
  have h39 := V39 0 5 id e hid hir oe
  have h31 := V31 0 1 bs (by omega) hr
  have h40 := V40r 0 4 bs (by omega) hr
  have h33 := V33 0 1 bs (by omega) hr
  have h41 := V41v 0 3 bs (by omega) hr
  have h42 := V42 0 10 (rdL bs) (rdL bs) (by omega)
  rw [(sameL_iff (rdL bs) (rdL bs)).2 rfl] at h42
  have h43 := V43 0 1 a b (by omega) (by omega) oa obb
  have h44 := V44 0 2 a b (by omega) (by omega) oa obb
  have h45 := V45 0 3
  rw [show sumI' [0] = h0 from rfl] at h45
  have h46 := V46n 0 5
  have q1 := eqIs_uu (hdL h0 a)
  have q2 := eqIs_uu (linkC id e)
  have q3 := eqIs_uu (rdH bs)
  have q4 := eqIs_uu (vfB bs).1
  have q5 := eqIs_uu h0
  have q6 := eqIs_uu zero32L
  have hz := hz32
  have hzl : (List.replicate 32 (PV.i IntKind.u8 0)).length = 32 := rfl
  have l1 := uL_len (hdL h0 a)
  rw [hdL_len _ _ h0_len] at l1
  have l2 := uL_len h0
  rw [h0_len] at l2
  have hdl : (rdH bs).length = 32 := by
    have := (rd_spec 264 h0 bs hr).2.2.1
    rw [show rdH bs = _ from this.symm]
    exact hdL_len _ _ h0_len
  have l3 := uL_len (rdH bs)
  rw [hdl] at l3
  have l4 : (uL (linkC id e)).length = 32 := by
    rw [linkC]
    cases mayE e
    · rfl
    · rw [cond_true, uL_len, linkH_len]
  have l5 : (uL (vfB bs).1).length = 32 := by
    rw [vfB_rest bs (by omega), restV]
    cases (bs.drop (62 * (rdL bs).length)).length == 0
    · cases decide ((bs.drop (62 * (rdL bs).length)).length < 62)
      · cases mayE (frE (bs.drop (62 * (rdL bs).length))) <;> rfl
      · rfl
    · rw [cond_true, l3]
  have el := enL_len (rdL bs)
  have te : List.take (rdL bs).length (enL (rdL bs)) = enL (rdL bs) := List.take_of_length_le (by omega)
  have c0 : unB [] = some [] := rfl
  have c1 := unB_by (recL h0 a)
  have cl := byL_len (recL h0 a)
  have ct : List.take (recL h0 a).length (byL (recL h0 a)) = byL (recL h0 a) := List.take_of_length_le (by omega)
  obtain ⟨R1, R2, hR1, hR2, hcl⟩ : ∃ R1 R2, clashR a b = R1 ∧ clashS a b = R2 ∧ ((R1 = outCl none ∧ R2 = outCl none) ∨ ∃ x y, R1 = outCl (some (x, y)) ∧ R2 = outZ (some (x, y))) := ⟨_, _, rfl, rfl, clash_both a b oa obb⟩
  rw [hR1] at h43
  rw [hR2] at h44
  clear hR1 hR2
  rw [← ea] at f f'
  rw [← eb] at g g'
  rw [← bl] at r r'
  simp only [outR, outV, yesPut, noPut, row, ← hz] at h31 h32 h33 h38 h40 h41 q6
  clear hdl hid hir oa obb oe hr rle
  generalize chars (recL h0 a) = s1 at *
  generalize (recL h0 a).length = n1 at *
  generalize byL (recL h0 a) = b1 at *
  generalize 62 * (rdL bs).length = n3 at *
  generalize (rdL bs).length = n2 at *
  generalize enL (rdL bs) = b2 at *
  generalize uL (rdH bs) = u3 at *
  generalize uL (vfB bs).1 = u4 at *
  generalize (vfB bs).2 = vb at *
  generalize uL (hdL h0 a) = u1 at *
  generalize uL (linkC id e) = u2 at *
  generalize mayE e = me at *
  clear hz
  generalize uL h0 = u5 at *
  generalize uL id = ui at *
  generalize a.all mayE = ma at *
  generalize enL a = xa at *
  generalize enL b = xb at *
  generalize byL bs = by' at *
  obtain ⟨e1, e2, e3, e4, e5, e6, e7, e8, e9⟩ := e
  simp only [enC] at h36 h39 ⊢
  generalize hz' : List.replicate 32 (PV.i .u8 0) = zz at *
  rcases hcl with ⟨k1, k2⟩ | ⟨x, y, k1, k2⟩
  · rw [k1] at h43
    rw [k2] at h44
    simp only [outCl, row] at h43 h44
    cases ma <;> simp only [cond_true, cond_false] at h32 h38 <;> simp -implicitDefEqProofs (maxSteps := 1000000) (disch := first | omega | rfl) [m13, h30, h31, h32, h33, h36, h38, h39, h40, h41, h42, h43, h44, h45, h46, q1, q2, q3, q4, q5, q6, l1, l2, l3, l4, l5, il, el, te, c0, c1, cl, ct, f, f', g, g', r, r', hz', hzl, box, KY, KV, KS, getS, getO, gS, zipN, dropW, takeW, wds, stvs, sea, seaL, refs, refsL, refsEls, refsO, isPureEls, isPures, isPure, noExt, noExts, noExtEls, cellsL, ren, renL, renEls, keepO, keepS, keysO, refsS, refsOB, cntN, headC, setS, boxO, row, putW, putB, putB1, eNl, newOs, frz, renO, noExtO, zps, zp, two32, w64, -getElem?_pos]
  · rw [k1] at h43
    rw [k2] at h44
    have c3 := unB_by x
    have c4 := unB_by y
    have d3 := byL_len x
    have d4 := byL_len y
    have t3 : List.take x.length (byL x) = byL x := List.take_of_length_le (by omega)
    have t4 : List.take y.length (byL y) = byL y := List.take_of_length_le (by omega)
    simp only [outCl, outZ, row] at h43 h44
    generalize chars x = sx at *
    generalize x.length = nx at *
    generalize byL x = bx at *
    generalize chars y = sy at *
    generalize y.length = ny at *
    generalize byL y = by'' at *
    cases ma <;> simp only [cond_true, cond_false] at h32 h38 <;> simp -implicitDefEqProofs (maxSteps := 1000000) (disch := first | omega | rfl) [m13, h30, h31, h32, h33, h36, h38, h39, h40, h41, h42, h43, h44, h45, h46, q1, q2, q3, q4, q5, q6, l1, l2, l3, l4, l5, il, el, te, c0, c1, cl, ct, c3, c4, d3, d4, t3, t4, f, f', g, g', r, r', hz', hzl, box, KY, KV, KS, getS, getO, gS, zipN, dropW, takeW, wds, stvs, sea, seaL, refs, refsL, refsEls, refsO, isPureEls, isPures, isPure, noExt, noExts, noExtEls, cellsL, ren, renL, renEls, keepO, keepS, keysO, refsS, refsOB, cntN, headC, setS, boxO, row, putW, putB, putB1, eNl, newOs, frz, renO, noExtO, zps, zp, two32, w64, -getElem?_pos]
theorem Pure.ChainTells (us : List PV) (h : TyAll Tryd.prog 8 [47, 47, 30, 57, 23] us) : ∃ N d out, sem tab N d 13 us [] = some (.b true, out) := by
  simp only [TyAll] at h
  obtain ⟨v0, _, rfl, h0, v1, _, rfl, h1, v2, _, rfl, h2, v3, _, rfl, h3, v4, _, rfl, h4, rfl⟩ := h
  obtain ⟨a, ha, rfl⟩ := entries_of h0
  obtain ⟨b, hb, rfl⟩ := entries_of h1
  obtain ⟨id, hl, hi, rfl⟩ := id_of h2
  obtain ⟨e, he, rfl⟩ := entry_of h3
  obtain ⟨bs, hr, rfl⟩ := bytes_of h4
  obtain ⟨out, h⟩ := chainTells_law a b id e bs ha hb hl hi he hr
  exact ⟨_, _, out, h⟩
end Go.Proofs.YtcimkkcajkmfoaaDoor
