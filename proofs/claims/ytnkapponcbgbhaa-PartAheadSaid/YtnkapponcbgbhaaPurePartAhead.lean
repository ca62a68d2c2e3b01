import Derived.Test.YtnkapponcbgbhaaPgD
set_option linter.all false
set_option linter.unusedSimpArgs false
set_option linter.unusedVariables false
namespace Go.Proofs.Ytnkapponcbgbhaa
open Go
theorem allW_ev (l : List Evn) : allW 5 (evL l) = true := by
  induction l with
  | nil => rfl
  | cons x r ih => simp only [evL, List.map_cons, evC, allW, wds, wd]; exact ih
theorem EvR_take {xs : List (List PV)} {l : List Evn} (h : EvR xs l) (k : Nat) : EvR (xs.take k) (l.take k) := by
  refine ⟨by rw [List.length_take, List.length_take, h.1], fun i hi => ?_⟩
  rw [List.length_take] at hi
  obtain ⟨g, hg⟩ := h.2 i (by omega)
  exact ⟨g, by rw [List.getElem?_take_of_lt (by omega), hg, List.getElem_take]⟩
theorem whoL_take (us : List Us) : ∀ (l : List Evn) (m : Mp) (k : Nat), whoL us m (l.take k) = (whoL us m l).take k
  | [], m, k => by simp [whoL]
  | e :: r, m, 0 => by simp [whoL]
  | e :: r, m, k + 1 => by simp only [List.take_succ_cons, whoL, whoL_take us r]
set_option maxHeartbeats 32000000 in
theorem aheadP_law (us : List Us) (l : List Evn) (i : Int) (ho : ∀ e ∈ l, okEv e) : ∃ out, sem tab 2001 12 5 [.l false (usL us), .l false (evL l), .i .i64 i] [] = some (.b true, out) := by
  rw [sem_succ tab 2001 11 5 m5 rfl]
  have h9 := awakeP
  have h10 := U27 1001 10 us
  have h11 := W11 1001 10 l
  have el := evL_len l
  by_cases f : (fewU us && fewV l) = true ∧ (0 ≤ i ∧ i ≤ (l.length : Int))
  case neg =>
    rw [← el] at f
    clear el ho
    generalize fewU us = f1 at *
    generalize fewV l = f2 at *
    generalize usL us = a at *
    generalize evL l = b at *
    cases f1
    · simp -implicitDefEqProofs (maxSteps := 1000000) (disch := first | omega | rfl) [m5, h9, h10, h11, KS, getS, getO, gS, zipN, dropW, takeW, wds, stvs, sea, seaL, refs, refsL, refsEls, refsO, isPureEls, isPures, isPure, noExt, noExts, noExtEls, cellsL, ren, renL, renEls, keepO, keepS, keysO, refsS, refsOB, cntN, headC, setS, boxO, row, putW, putB, putB1, eNl, newOs, frz, renO, noExtO, zps, zp, two32, w64, -getElem?_pos]
    · cases f2
      · simp -implicitDefEqProofs (maxSteps := 1000000) (disch := first | omega | rfl) [m5, h9, h10, h11, KS, getS, getO, gS, zipN, dropW, takeW, wds, stvs, sea, seaL, refs, refsL, refsEls, refsO, isPureEls, isPures, isPure, noExt, noExts, noExtEls, cellsL, ren, renL, renEls, keepO, keepS, keysO, refsS, refsOB, cntN, headC, setS, boxO, row, putW, putB, putB1, eNl, newOs, frz, renO, noExtO, zps, zp, two32, w64, -getElem?_pos]
      · by_cases h0 : i < 0
        · simp -implicitDefEqProofs (maxSteps := 1000000) (disch := first | omega | rfl) [m5, h9, h10, h11, h0, KS, getS, getO, gS, zipN, dropW, takeW, wds, stvs, sea, seaL, refs, refsL, refsEls, refsO, isPureEls, isPures, isPure, noExt, noExts, noExtEls, cellsL, ren, renL, renEls, keepO, keepS, keysO, refsS, refsOB, cntN, headC, setS, boxO, row, putW, putB, putB1, eNl, newOs, frz, renO, noExtO, zps, zp, two32, w64, -getElem?_pos]
        · have h1 : i > (b.length : Int) := by
            by_cases h : i > (b.length : Int)
            · exact h
            · exact absurd ⟨rfl, by omega, by omega⟩ f
          simp -implicitDefEqProofs (maxSteps := 1000000) (disch := first | omega | rfl) [m5, h9, h10, h11, h0, h1, KS, getS, getO, gS, zipN, dropW, takeW, wds, stvs, sea, seaL, refs, refsL, refsEls, refsO, isPureEls, isPures, isPure, noExt, noExts, noExtEls, cellsL, ren, renL, renEls, keepO, keepS, keysO, refsS, refsOB, cntN, headC, setS, boxO, row, putW, putB, putB1, eNl, newOs, frz, renO, noExtO, zps, zp, two32, w64, -getElem?_pos]
  case pos =>
  obtain ⟨f12, hi0, hi1⟩ := f
  rw [Bool.and_eq_true] at f12
  obtain ⟨f1, f2⟩ := f12
  rw [f1] at h10
  rw [f2] at h11
  have fu := fewU_len f1
  obtain ⟨fl, fb⟩ := fewV_spec f2
  have hf : ∀ e ∈ l, fewE e := fun e he => ⟨by have := fb e he; omega, ho e he⟩
  have h13 := W13 1000 3 us [] 0 0 (evL l) l (EvR_L l) (by omega) (by omega) hf
  obtain ⟨j, rfl⟩ : ∃ j : Nat, i = j := ⟨i.toNat, by omega⟩
  have hj : j ≤ l.length := by omega
  have lj : (l.take j).length = j := by rw [List.length_take]; omega
  have h13' := W13 1000 3 us [] 0 0 ((evL l).take j) (l.take j) (EvR_take (EvR_L l) j) (by omega) (by omega) (fun e he => hf e (List.mem_of_mem_take he))
  rw [whoL_take, lj] at h13'
  have h12 := W12 1001 10 ((whoL us [] l).take j) ((whoL us [] l).take j) (by rw [List.length_take, whoL_len]; omega)
  rw [decide_eq_true rfl] at h12
  have it : iL ((whoL us [] l).take j) = (iL (whoL us [] l)).take j := by simp [iL, List.map_take]
  rw [it] at h12 h13'
  have e2 : (iL (whoL us [] l)).length = l.length := by rw [iL_len, whoL_len]
  have aw := allW_ev l
  have c0 : ¬ ((j : Int) < 0) := by omega
  have c0' : (0 : Int) ≤ j := by omega
  have c1 : ¬ ((j : Int) > ((evL l).length : Int)) := by omega
  have c2 : (j : Int) ≤ (l.length : Int) := by omega
  have c3 : j ≤ l.length := hj
  have c4 : ¬ (l.length < j) := by omega
  have tl : ((iL (whoL us [] l)).take j).length = j := by rw [List.length_take, e2]; omega
  have tt : List.take j ((iL (whoL us [] l)).take j) = (iL (whoL us [] l)).take j := by rw [List.take_take, Nat.min_self]
  clear ho hf fb fu fl f1 f2 hi0 hi1 it lj
  generalize iL (whoL us [] l) = w at *
  generalize usL us = a at *
  generalize evL l = b at *
  simp -implicitDefEqProofs (maxSteps := 1000000) (disch := first | omega | rfl) [m5, h9, h10, h11, h12, h13, h13', el, e2, aw, c0, c0', c1, c2, c3, c4, tl, tt, box, KS, getS, getO, gS, zipN, dropW, takeW, wds, stvs, sea, seaL, refs, refsL, refsEls, refsO, isPureEls, isPures, isPure, noExt, noExts, noExtEls, cellsL, ren, renL, renEls, keepO, keepS, keysO, refsS, refsOB, cntN, headC, setS, boxO, row, putW, putB, putB1, eNl, newOs, frz, renO, noExtO, zps, zp, two32, w64, -getElem?_pos]
theorem Pure.PartAhead (us : List PV) (h : TyAll Try.prog 8 [22, 23, 3] us) : ∃ N d out, sem tab N d 5 us [] = some (.b true, out) := by
  simp only [TyAll] at h
  obtain ⟨v0, _, rfl, h0, v1, _, rfl, h1, v2, _, rfl, h2, rfl⟩ := h
  obtain ⟨u, hu, rfl⟩ := users_of h0
  obtain ⟨l, hl, rfl⟩ := evs_of h1
  obtain ⟨i, _, _, rfl⟩ := int_of h2
  obtain ⟨out, h⟩ := aheadP_law u l i hl
  exact ⟨_, _, out, h⟩
end Go.Proofs.Ytnkapponcbgbhaa
