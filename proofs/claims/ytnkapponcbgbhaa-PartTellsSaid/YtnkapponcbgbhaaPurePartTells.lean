import Derived.Test.YtnkapponcbgbhaaPgD
set_option linter.all false
set_option linter.unusedSimpArgs false
set_option linter.unusedVariables false
namespace Go.Proofs.Ytnkapponcbgbhaa
open Go
set_option maxHeartbeats 16000000 in
theorem tellsP_law (us : List Us) (l : List Evn) (ho : ∀ e ∈ l, okEv e) : ∃ out, sem tab 2001 12 3 [.l false (usL us), .l false (evL l)] [] = some (.b true, out) := by
  rw [sem_succ tab 2001 11 3 m3 rfl]
  have h9 := awakeP
  have h10 := U27 1001 10 us
  have h11 := W11 1001 10 l
  cases f1 : fewU us
  · rw [f1] at h10
    generalize fewV l = f2 at *
    generalize usL us = a at *
    generalize evL l = b at *
    simp -implicitDefEqProofs (maxSteps := 1000000) (disch := first | omega | rfl) [m3, h9, h10, h11, KS, getS, getO, gS, zipN, dropW, takeW, wds, refs, refsL, noExt, ren, boxO, putW, putB, -getElem?_pos]
  cases f2 : fewV l
  · rw [f1] at h10
    rw [f2] at h11
    generalize usL us = a at *
    generalize evL l = b at *
    simp -implicitDefEqProofs (maxSteps := 1000000) (disch := first | omega | rfl) [m3, h9, h10, h11, KS, getS, getO, gS, zipN, dropW, takeW, wds, refs, refsL, noExt, ren, boxO, putW, putB, -getElem?_pos]
  rw [f1] at h10
  rw [f2] at h11
  have fu := fewU_len f1
  obtain ⟨fl, fb⟩ := fewV_spec f2
  have hf : ∀ e ∈ l, fewE e := fun e he => ⟨by have := fb e he; omega, ho e he⟩
  have h13 := W13 1000 3 us [] 0 0 (evL l) l (EvR_L l) (by omega) (by omega) hf
  have h14 := W14 1001 2 us [] 0 0 l (by omega) fu hf
  have h12 := W12 1001 10 (whoL us [] l) (whoL us [] l) (by rw [whoL_len]; omega)
  rw [decide_eq_true rfl] at h12
  have h16 := W16 1000 2 us [] 0 0 (evL l) l (EvR_L l) (by omega) (by omega) hf
  obtain ⟨gr, T, hT, h17⟩ := W17 1001 2 us [] 0 0 l (by omega) fu hf
  have ll : (stripL us [] l).length ≤ 900 := by rw [stripL_W]; have := stripW_len us (whoL us [] l) l; omega
  have h15 := W15 1001 10 (evT (stripL us [] l)) T (stripL us [] l) (evT_R _) hT ll
  have h18 := W18 1001 3 l (by omega) hf
  have h19 := W19 1001 4 l (by omega) hf
  have e2 : (iL (whoL us [] l)).length = l.length := by rw [iL_len, whoL_len]
  have tw : List.take l.length (iL (whoL us [] l)) = iL (whoL us [] l) := by rw [← e2]; exact List.take_length
  have tT : List.take T.length T = T := List.take_length
  have tE : List.take (evT (stripL us [] l)).length (evT (stripL us [] l)) = evT (stripL us [] l) := List.take_length
  simp only [cfC] at h14 h16 h17
  clear hT hf fb fl fu ho f1 f2 ll
  generalize clrL [] l = cq at *
  generalize evT (stripL us [] l) = S at *
  generalize iL (whoL us [] l) = w at *
  generalize l.length = n at *
  generalize usL us = a at *
  generalize evL l = b at *
  simp -implicitDefEqProofs (maxSteps := 1000000) (disch := first | omega | rfl) [m3, h9, h10, h11, h12, h13, h14, h15, h16, h17, h18, h19, e2, tw, tT, tE, KS, getS, getO, gS, zipN, dropW, takeW, wds, refs, refsL, noExt, ren, boxO, row, putW, putB, newOs, renO, noExtO, -getElem?_pos]
theorem Pure.PartTells (us : List PV) (h : TyAll Try.prog 8 [22, 23] us) : ∃ N d out, sem tab N d 3 us [] = some (.b true, out) := by
  simp only [TyAll] at h
  obtain ⟨v0, _, rfl, h0, v1, _, rfl, h1, rfl⟩ := h
  obtain ⟨u, hu, rfl⟩ := users_of h0
  obtain ⟨l, hl, rfl⟩ := evs_of h1
  obtain ⟨out, h⟩ := tellsP_law u l hl
  exact ⟨_, _, out, h⟩
end Go.Proofs.Ytnkapponcbgbhaa
