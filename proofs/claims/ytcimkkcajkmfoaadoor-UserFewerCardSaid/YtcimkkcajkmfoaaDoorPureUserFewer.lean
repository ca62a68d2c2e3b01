/- Of users that may be those without one may be, too: the plain law. -/
import Derived.Test.YtcimkkcajkmfoaaDoorPureUh
set_option linter.all false
set_option linter.unusedSimpArgs false
set_option linter.unusedVariables false
namespace Go.Proofs.YtcimkkcajkmfoaaDoor
open Go
theorem dis_nil (x g : Bool) (xs : List (List PV)) (b : List PV) : dis [.e x, .l g xs] b = some () := by simp [dis, refsL, refs]
set_option maxHeartbeats 16000000 in
theorem fewer_law (l : List Us) (i no : Int) : ∃ out, sem tab 2000 13 5 [.l false (usL l), .i .i64 i, .i .i64 no] [] = some (.b true, out) := by
  rw [sem_succ tab 2000 12 5 m5 rfl]
  have h26 := awakeU
  have h27 := U27 1000 11 l
  have hn := usL_len l
  cases hf : fewU l
  · rw [hf] at h27
    generalize usL l = a at *
    simp -implicitDefEqProofs (maxSteps := 1000000) (disch := first | omega | rfl) [m5, h26, h27, KS, getS, getO, gS, zipN, dropW, takeW, wds, stvs, sea, seaL, refs, refsL, refsEls, refsO, isPureEls, isPures, isPure, noExt, noExts, noExtEls, cellsL, ren, renL, renEls, keepO, keepS, keysO, refsS, refsOB, cntN, headC, setS, boxO, row, putW, putB, putB1, eNl, newOs, frz, renO, noExtO, zps, zp, two32, w64, -getElem?_pos]
  · rw [hf] at h27
    obtain ⟨k1, k2⟩ := few_spec hf
    have h32 := U32 1000 10 l (by omega)
    cases hm : mayU l
    · rw [hm] at h32
      generalize usL l = a at *
      simp -implicitDefEqProofs (maxSteps := 1000000) (disch := first | omega | rfl) [m5, h26, h27, h32, KS, getS, getO, gS, zipN, dropW, takeW, wds, stvs, sea, seaL, refs, refsL, refsEls, refsO, isPureEls, isPures, isPure, noExt, noExts, noExtEls, cellsL, ren, renL, renEls, keepO, keepS, keysO, refsS, refsOB, cntN, headC, setS, boxO, row, putW, putB, putB1, eNl, newOs, frz, renO, noExtO, zps, zp, two32, w64, -getElem?_pos]
    · rw [hm] at h32
      by_cases c1 : i < 0
      · generalize usL l = a at *
        simp -implicitDefEqProofs (maxSteps := 1000000) (disch := first | omega | rfl) [m5, h26, h27, h32, c1, KS, getS, getO, gS, zipN, dropW, takeW, wds, stvs, sea, seaL, refs, refsL, refsEls, refsO, isPureEls, isPures, isPure, noExt, noExts, noExtEls, cellsL, ren, renL, renEls, keepO, keepS, keysO, refsS, refsOB, cntN, headC, setS, boxO, row, putW, putB, putB1, eNl, newOs, frz, renO, noExtO, zps, zp, two32, w64, -getElem?_pos]
      · by_cases c2 : i ≥ (l.length : Int)
        · rw [← hn] at c2
          have c2' : ((usL l).length : Int) ≤ i := c2
          generalize usL l = a at *
          simp -implicitDefEqProofs (maxSteps := 1000000) (disch := first | omega | rfl) [m5, h26, h27, h32, c1, c2, c2', KS, getS, getO, gS, zipN, dropW, takeW, wds, stvs, sea, seaL, refs, refsL, refsEls, refsO, isPureEls, isPures, isPure, noExt, noExts, noExtEls, cellsL, ren, renL, renEls, keepO, keepS, keysO, refsS, refsOB, cntN, headC, setS, boxO, row, putW, putB, putB1, eNl, newOs, frz, renO, noExtO, zps, zp, two32, w64, -getElem?_pos]
        · obtain ⟨j, rfl⟩ : ∃ j : Nat, i = j := ⟨i.toNat, by omega⟩
          have hj : j < l.length := by omega
          obtain ⟨u, hu⟩ : ∃ u, l[j]? = some u := ⟨_, List.getElem?_eq_getElem hj⟩
          have hx : (usL l)[j]? = some (uC u) := by rw [usL, List.getElem?_map, hu]; rfl
          have hm0 := (may_from hm).1
          have hrm : mayU (l.take j ++ l.drop (j + 1)) = true := by
            simp only [mayU, Bool.and_eq_true, decide_eq_true_eq]
            exact ⟨may_erase l 0 j hm0, by simp; have := (may_from hm).2; omega⟩
          have hne : ∀ v ∈ l.take j ++ l.drop (j + 1), v.1 ≠ u.1 := by
            intro v hv
            rcases List.mem_append.1 hv with hv | hv
            · obtain ⟨m, hm'⟩ := List.getElem?_of_mem hv
              rw [List.getElem?_take] at hm'
              split at hm'
              · have := (may_sorted l 0 hm0 j u hu).2 m v (by assumption) hm'; omega
              · cases hm'
            · obtain ⟨m, hm'⟩ := List.getElem?_of_mem hv
              rw [List.getElem?_drop] at hm'
              have := (may_sorted l 0 hm0 _ v hm').2 j u (by omega) hu; omega
          have hrole : no ≠ u.1 → roleU (l.take j ++ l.drop (j + 1)) no = roleU l no := by
            intro hno
            refine role_same hrm hm fun v hv => ⟨fun h => ?_, fun h => ?_⟩
            · rcases List.mem_append.1 h with h | h
              · exact List.mem_of_mem_take h
              · exact List.mem_of_mem_drop h
            · obtain ⟨m, hm'⟩ := List.getElem?_of_mem h
              rcases Nat.lt_trichotomy m j with c | c | c
              · exact List.mem_append_left _ (List.mem_of_getElem? (i := m) (by rw [List.getElem?_take, if_pos c]; exact hm'))
              · subst c
                rw [hu] at hm'
                injection hm' with hm'
                subst hm'
                exact absurd hv.symm hno
              · exact List.mem_append_right _ (List.mem_of_getElem? (i := m - (j + 1)) (by rw [List.getElem?_drop, show j + 1 + (m - (j + 1)) = m by omega]; exact hm'))
          have hlr : (l.take j ++ l.drop (j + 1)).length < 1000 := by simp; omega
          have h32r := U32 1000 10 _ hlr
          rw [hrm] at h32r
          have h34r := U34u 999 9 (l.take j ++ l.drop (j + 1)) u.1 hlr
          rw [(find_none hne).1] at h34r
          have h36r := U36u 999 8 (l.take j ++ l.drop (j + 1)) no hlr
          have h36 := U36u 999 8 l no (by omega)
          have hab : usL (l.take j ++ l.drop (j + 1)) = usL (l.take j) ++ usL (l.drop (j + 1)) := by simp [usL]
          rw [hab] at h32r h34r h36r
          have ha : List.take j (usL l) = usL (l.take j) := by simp [usL, List.map_take]
          have hb : List.drop (j + 1) (usL l) = usL (l.drop (j + 1)) := by simp [usL, List.map_drop]
          have hal : (usL (l.take j)).length = j := by rw [usL_len]; simp; omega
          have wa := allW_us (l.take j)
          have wb := allW_us (l.drop (j + 1))
          have wl := allW_us l
          have hbl := usL_len (l.drop (j + 1))
          have w2 := w64n (i := j) (by omega)
          rw [← hn] at c2
          have c3 : (j : Int) < (usL l).length := by omega
          have c4 : ¬ (usL l).length ≤ j := by omega
          have c5 : (j : Int) + 1 ≤ (usL l).length := by omega
          have c6 : ((j : Int) + 1).toNat = j + 1 := by omega
          have c7 : (0 : Int) ≤ (j : Int) + 1 := by omega
          have c8 : (j : Int) ≤ (usL l).length := by omega
          have hle : (usL l).length ≤ 10 := by omega
          have hbl2 : (usL (l.drop (j + 1))).length ≤ 10 := by rw [hbl]; simp; omega
          have hsum : ∀ x : Int, x = roleU l no → no ≠ u.1 → roleU (l.take j ++ l.drop (j + 1)) no = x := fun x h1 h2 => by rw [h1]; exact hrole h2
          generalize roleU (l.take j ++ l.drop (j + 1)) no = r1 at *
          generalize roleU l no = r2 at *
          obtain ⟨un, ur, uk⟩ := u
          simp only [uC] at hx h34r hrole
          clear hab hsum hne hrm hu h27 hbl
          have h27 : sem tab 2000 12 16 [.l false (usL l)] [] = some (.b true, []) := by have := U27 1000 11 l; rw [hf] at this; exact this
          generalize usL (l.take j) = A at *
          generalize usL (l.drop (j + 1)) = B at *
          generalize byL uk = b at *
          generalize usL l = a at *
          have t1 : List.take j A = A := List.take_of_length_le (by omega)
          have e1 : (B = [] ∧ List.take j (A ++ B) = A ∧ A ++ B = A) ∨ ¬ (j + B.length ≤ j) := by
            cases B with
            | nil => left; simp [t1]
            | cons x y => right; simp
          have t2 : List.take (j + B.length) (A ++ B) = A ++ B := List.take_of_length_le (by simp; omega)
          have d1 : j + B.length ≤ 4294967296 := by omega
          have d2 : j ≤ 4294967296 := by omega
          have fin : no = un ∨ (no ≠ un ∧ r1 = r2) := by
            by_cases h : no = un
            · exact .inl h
            · exact .inr ⟨h, hrole h⟩
          rcases e1 with ⟨rfl, e2, e3⟩ | e1
          · rw [e3] at h32r h34r h36r
            rcases fin with rfl | ⟨f1, rfl⟩
            · simp -implicitDefEqProofs (maxSteps := 1000000) (disch := first | omega | rfl) [m5, dis_nil, h26, h27, h32, h32r, h34r, hx, ha, hb, hal, wa, wl, w2, c1, c3, c4, c5, c6, c7, c8, t1, d2, KS, getS, getO, gS, zipN, dropW, takeW, wds, stvs, sea, seaL, refs, refsL, refsEls, refsO, isPureEls, isPures, isPure, noExt, noExts, noExtEls, cellsL, ren, renL, renEls, keepO, keepS, keysO, refsS, refsOB, cntN, headC, setS, boxO, row, putW, putB, putB1, eNl, newOs, frz, renO, noExtO, zps, zp, two32, w64, -getElem?_pos]
            · have f2 : (no == un) = false := by simpa using f1
              simp -implicitDefEqProofs (maxSteps := 1000000) (disch := first | omega | rfl) [m5, dis_nil, h26, h27, h32, h32r, h34r, h36, h36r, hx, ha, hb, hal, wa, wl, w2, c1, c3, c4, c5, c6, c7, c8, t1, d2, f2, KS, getS, getO, gS, zipN, dropW, takeW, wds, stvs, sea, seaL, refs, refsL, refsEls, refsO, isPureEls, isPures, isPure, noExt, noExts, noExtEls, cellsL, ren, renL, renEls, keepO, keepS, keysO, refsS, refsOB, cntN, headC, setS, boxO, row, putW, putB, putB1, eNl, newOs, frz, renO, noExtO, zps, zp, two32, w64, -getElem?_pos]
          · rcases fin with rfl | ⟨f1, rfl⟩
            · simp -implicitDefEqProofs (maxSteps := 1000000) (disch := first | omega | rfl) [m5, dis_nil, h26, h27, h32, h32r, h34r, hx, ha, hb, hal, wa, wb, wl, w2, c1, c3, c4, c5, c6, c7, c8, t1, t2, e1, d1, d2, KS, getS, getO, gS, zipN, dropW, takeW, wds, stvs, sea, seaL, refs, refsL, refsEls, refsO, isPureEls, isPures, isPure, noExt, noExts, noExtEls, cellsL, ren, renL, renEls, keepO, keepS, keysO, refsS, refsOB, cntN, headC, setS, boxO, row, putW, putB, putB1, eNl, newOs, frz, renO, noExtO, zps, zp, two32, w64, -getElem?_pos]
            · have f2 : (no == un) = false := by simpa using f1
              simp -implicitDefEqProofs (maxSteps := 1000000) (disch := first | omega | rfl) [m5, dis_nil, h26, h27, h32, h32r, h34r, h36, h36r, hx, ha, hb, hal, wa, wb, wl, w2, c1, c3, c4, c5, c6, c7, c8, t1, t2, e1, d1, d2, f2, KS, getS, getO, gS, zipN, dropW, takeW, wds, stvs, sea, seaL, refs, refsL, refsEls, refsO, isPureEls, isPures, isPure, noExt, noExts, noExtEls, cellsL, ren, renL, renEls, keepO, keepS, keysO, refsS, refsOB, cntN, headC, setS, boxO, row, putW, putB, putB1, eNl, newOs, frz, renO, noExtO, zps, zp, two32, w64, -getElem?_pos]
set_option maxRecDepth 100000 in
theorem Pure.UserFewer (us : List PV) (h : TyAll Tryd.prog 8 [22, 3, 3] us) : ∃ N d out, sem tab N d 5 us [] = some (.b true, out) := by
  simp only [TyAll] at h
  obtain ⟨v0, _, rfl, h0, v1, _, rfl, h1, v2, _, rfl, h2, rfl⟩ := h
  obtain ⟨l, hl, rfl⟩ := users_of h0
  obtain ⟨i, _, _, rfl⟩ := int_of h1
  obtain ⟨no, _, _, rfl⟩ := int_of h2
  obtain ⟨out, h⟩ := fewer_law l i no
  exact ⟨_, _, out, h⟩
end Go.Proofs.YtcimkkcajkmfoaaDoor
