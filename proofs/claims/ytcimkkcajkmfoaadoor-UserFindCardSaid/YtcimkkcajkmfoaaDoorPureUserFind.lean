/- A user is found where it stands: the plain law. -/
import Derived.Test.YtcimkkcajkmfoaaDoorPureUh
set_option linter.all false
set_option linter.unusedSimpArgs false
set_option linter.unusedVariables false
namespace Go.Proofs.YtcimkkcajkmfoaaDoor
open Go
set_option maxHeartbeats 16000000 in
theorem find_law (l : List Us) (no i : Int) : ∃ out, sem tab 2000 13 4 [.l false (usL l), .i .i64 no, .i .i64 i] [] = some (.b true, out) := by
  rw [sem_succ tab 2000 12 4 m4 rfl]
  have h26 := awakeU
  have h27 := U27 1000 11 l
  cases hf : fewU l
  · rw [hf] at h27
    generalize usL l = a at *
    simp -implicitDefEqProofs (maxSteps := 1000000) (disch := first | omega | rfl) [m4, h26, h27, KS, getS, getO, gS, zipN, dropW, takeW, wds, stvs, sea, seaL, refs, refsL, refsEls, refsO, isPureEls, isPures, isPure, noExt, noExts, noExtEls, cellsL, ren, renL, renEls, keepO, keepS, keysO, refsS, refsOB, cntN, headC, setS, boxO, row, putW, putB, putB1, eNl, newOs, frz, renO, noExtO, zps, zp, two32, w64, -getElem?_pos]
  · rw [hf] at h27
    obtain ⟨k1, k2⟩ := few_spec hf
    have h32 := U32 1000 10 l (by omega)
    cases hm : mayU l
    · rw [hm] at h32
      generalize usL l = a at *
      simp -implicitDefEqProofs (maxSteps := 1000000) (disch := first | omega | rfl) [m4, h26, h27, h32, KS, getS, getO, gS, zipN, dropW, takeW, wds, stvs, sea, seaL, refs, refsL, refsEls, refsO, isPureEls, isPures, isPure, noExt, noExts, noExtEls, cellsL, ren, renL, renEls, keepO, keepS, keysO, refsS, refsOB, cntN, headC, setS, boxO, row, putW, putB, putB1, eNl, newOs, frz, renO, noExtO, zps, zp, two32, w64, -getElem?_pos]
    · rw [hm] at h32
      have h34 := U34u 999 9 l no (by omega)
      have h36 := U36u 999 8 l no (by omega)
      have hn := usL_len l
      have key : ∀ F : Int → Int → Prop, F (-1) (-1) → (∀ (k : Nat) (u : Us), l[k]? = some u → (usL l)[k]? = some [.i .i64 no, .i .i64 u.2.1, .l false (byL u.2.2)] → k < l.length → u.1 = no → roleB u.2.1 = true → F k u.2.1) → F (findU l no) (roleU l no) := by
        intro F h1 h2
        rcases find_cases l no with ⟨g1, g2⟩ | ⟨k, v, g1, g2, g3, _, g5⟩
        · rw [g1, g2]; exact h1
        · rw [g1, g5]
          refine h2 k v g2 ?_ (List.getElem?_eq_some_iff.1 g2).1 g3 (may_role l 0 (may_from hm).1 v (List.mem_of_getElem? g2))
          rw [usL, List.getElem?_map, g2, Option.map_some, uC, g3]
      by_cases ci : 0 ≤ i ∧ i < l.length
      · obtain ⟨j, rfl⟩ : ∃ j : Nat, i = j := ⟨i.toNat, by omega⟩
        have hj : j < l.length := by omega
        obtain ⟨u, hu⟩ : ∃ u, l[j]? = some u := ⟨_, List.getElem?_eq_getElem hj⟩
        obtain ⟨p1, p2, p3⟩ := find_at hm hu
        have h34j := U34u 999 9 l u.1 (by omega)
        have h36j := U36u 999 8 l u.1 (by omega)
        rw [p1] at h34j
        rw [p2] at h36j
        have hx : (usL l)[j]? = some (uC u) := by rw [usL, List.getElem?_map, hu]; rfl
        have e1 : ((j : Int) != (j : Int)) = false := by simp
        have c1 : (0 : Int) ≤ j := by omega
        have c2 : (j : Int) < (usL l).length := by omega
        obtain ⟨un, ur, uk⟩ := u
        simp only [uC] at hx h34j h36j
        by_cases en : un = no
        · subst en
          have p1' : findU l un = (j : Nat) := p1
          have p2' : roleU l un = ur := p2
          rw [p1'] at h34
          rw [p2'] at h36
          have h38 := U38r 2000 11 ur
          rw [show roleB ur = true from p3] at h38
          have e2 : ((j : Int) == -1) = false := by rw [beq_eq_false_iff_ne]; omega
          clear key
          generalize byL uk = b at *
          generalize usL l = a at *
          simp -implicitDefEqProofs (maxSteps := 1000000) (disch := first | omega | rfl) [m4, h26, h27, h32, h34, h36, h38, hx, c1, c2, e1, e2, KS, getS, getO, gS, zipN, dropW, takeW, wds, stvs, sea, seaL, refs, refsL, refsEls, refsO, isPureEls, isPures, isPure, noExt, noExts, noExtEls, cellsL, ren, renL, renEls, keepO, keepS, keysO, refsS, refsOB, cntN, headC, setS, boxO, row, putW, putB, putB1, eNl, newOs, frz, renO, noExtO, zps, zp, two32, w64, -getElem?_pos]
        · have en' : (un == no) = false := by simpa using en
          rcases find_cases l no with ⟨g1, g2⟩ | ⟨k, v, g1, g2, g3, _, g5⟩
          · rw [g1] at h34
            rw [g2] at h36
            clear key
            generalize byL uk = b at *
            generalize usL l = a at *
            simp -implicitDefEqProofs (maxSteps := 1000000) (disch := first | omega | rfl) [m4, h26, h27, h32, h34, h36, h34j, h36j, hx, c1, c2, e1, en', KS, getS, getO, gS, zipN, dropW, takeW, wds, stvs, sea, seaL, refs, refsL, refsEls, refsO, isPureEls, isPures, isPure, noExt, noExts, noExtEls, cellsL, ren, renL, renEls, keepO, keepS, keysO, refsS, refsOB, cntN, headC, setS, boxO, row, putW, putB, putB1, eNl, newOs, frz, renO, noExtO, zps, zp, two32, w64, -getElem?_pos]
          · rw [g1] at h34
            rw [g5] at h36
            have hy : (usL l)[k]? = some (uC v) := by rw [usL, List.getElem?_map, g2]; rfl
            have h38 := U38r 2000 11 v.2.1
            rw [may_role l 0 (may_from hm).1 v (List.mem_of_getElem? g2)] at h38
            have hk := (List.getElem?_eq_some_iff.1 g2).1
            have e2 : ((k : Int) == -1) = false := by rw [beq_eq_false_iff_ne]; omega
            have c3 : (0 : Int) ≤ k := by omega
            have c4 : (k : Int) < (usL l).length := by omega
            obtain ⟨vn, vr, vk⟩ := v
            simp only at g3
            subst g3
            simp only [uC] at hy h38
            clear key g1 g2 g5 hu p1 p2
            generalize byL uk = b at *
            generalize byL vk = b' at *
            generalize usL l = a at *
            simp -implicitDefEqProofs (maxSteps := 1000000) (disch := first | omega | rfl) [m4, h26, h27, h32, h34, h36, h34j, h36j, h38, hx, hy, c1, c2, c3, c4, e1, e2, en', KS, getS, getO, gS, zipN, dropW, takeW, wds, stvs, sea, seaL, refs, refsL, refsEls, refsO, isPureEls, isPures, isPure, noExt, noExts, noExtEls, cellsL, ren, renL, renEls, keepO, keepS, keysO, refsS, refsOB, cntN, headC, setS, boxO, row, putW, putB, putB1, eNl, newOs, frz, renO, noExtO, zps, zp, two32, w64, -getElem?_pos]
      · have out : ∀ F : Prop, (i < 0 → F) → (0 ≤ i → ¬ i < (usL l).length → F) → F := by
          intro F h1 h2
          by_cases h : 0 ≤ i
          · exact h2 h (by rw [hn]; intro h'; exact ci ⟨h, h'⟩)
          · exact h1 (by omega)
        revert h34 h36
        refine key (fun f r => sem tab 2000 12 23 [.l false (usL l), .i .i64 no] [] = some (.i .i64 f, []) → sem tab 2000 12 25 [.l false (usL l), .i .i64 no] [] = some (.i .i64 r, []) → _) ?_ ?_
        · intro h34 h36
          clear key
          apply out
          · intro c1
            have c1' : ¬ 0 ≤ i := by omega
            generalize usL l = a at *
            simp -implicitDefEqProofs (maxSteps := 1000000) (disch := first | omega | rfl) [m4, h26, h27, h32, h34, h36, c1, c1', KS, getS, getO, gS, zipN, dropW, takeW, wds, stvs, sea, seaL, refs, refsL, refsEls, refsO, isPureEls, isPures, isPure, noExt, noExts, noExtEls, cellsL, ren, renL, renEls, keepO, keepS, keysO, refsS, refsOB, cntN, headC, setS, boxO, row, putW, putB, putB1, eNl, newOs, frz, renO, noExtO, zps, zp, two32, w64, -getElem?_pos]
          · intro c1 c2
            generalize usL l = a at *
            simp -implicitDefEqProofs (maxSteps := 1000000) (disch := first | omega | rfl) [m4, h26, h27, h32, h34, h36, c1, c2, KS, getS, getO, gS, zipN, dropW, takeW, wds, stvs, sea, seaL, refs, refsL, refsEls, refsO, isPureEls, isPures, isPure, noExt, noExts, noExtEls, cellsL, ren, renL, renEls, keepO, keepS, keysO, refsS, refsOB, cntN, headC, setS, boxO, row, putW, putB, putB1, eNl, newOs, frz, renO, noExtO, zps, zp, two32, w64, -getElem?_pos]
        · intro k v g2 hy hk g3 g4 h34 h36
          clear key
          have h38 := U38r 2000 11 v.2.1
          rw [g4] at h38
          have e2 : ((k : Int) == -1) = false := by rw [beq_eq_false_iff_ne]; omega
          have c3 : (0 : Int) ≤ k := by omega
          have c4 : (k : Int) < (usL l).length := by omega
          obtain ⟨vn, vr, vk⟩ := v
          simp only at hy h38 h36
          apply out
          · intro c1
            have c1' : ¬ 0 ≤ i := by omega
            generalize byL vk = b' at *
            generalize usL l = a at *
            simp -implicitDefEqProofs (maxSteps := 1000000) (disch := first | omega | rfl) [m4, h26, h27, h32, h34, h36, h38, hy, c3, c4, e2, c1, c1', KS, getS, getO, gS, zipN, dropW, takeW, wds, stvs, sea, seaL, refs, refsL, refsEls, refsO, isPureEls, isPures, isPure, noExt, noExts, noExtEls, cellsL, ren, renL, renEls, keepO, keepS, keysO, refsS, refsOB, cntN, headC, setS, boxO, row, putW, putB, putB1, eNl, newOs, frz, renO, noExtO, zps, zp, two32, w64, -getElem?_pos]
          · intro c1 c2
            generalize byL vk = b' at *
            generalize usL l = a at *
            simp -implicitDefEqProofs (maxSteps := 1000000) (disch := first | omega | rfl) [m4, h26, h27, h32, h34, h36, h38, hy, c3, c4, e2, c1, c2, KS, getS, getO, gS, zipN, dropW, takeW, wds, stvs, sea, seaL, refs, refsL, refsEls, refsO, isPureEls, isPures, isPure, noExt, noExts, noExtEls, cellsL, ren, renL, renEls, keepO, keepS, keysO, refsS, refsOB, cntN, headC, setS, boxO, row, putW, putB, putB1, eNl, newOs, frz, renO, noExtO, zps, zp, two32, w64, -getElem?_pos]
set_option maxRecDepth 100000 in
theorem Pure.UserFind (us : List PV) (h : TyAll Tryd.prog 8 [22, 3, 3] us) : ∃ N d out, sem tab N d 4 us [] = some (.b true, out) := by
  simp only [TyAll] at h
  obtain ⟨v0, _, rfl, h0, v1, _, rfl, h1, v2, _, rfl, h2, rfl⟩ := h
  obtain ⟨l, hl, rfl⟩ := users_of h0
  obtain ⟨no, _, _, rfl⟩ := int_of h1
  obtain ⟨i, _, _, rfl⟩ := int_of h2
  obtain ⟨out, h⟩ := find_law l no i
  exact ⟨_, _, out, h⟩
end Go.Proofs.YtcimkkcajkmfoaaDoor
