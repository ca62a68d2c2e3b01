import Derived.Test.YtnkapponcbgbhaaPgD
set_option linter.all false
set_option linter.unusedSimpArgs false
set_option linter.unusedVariables false
namespace Go.Proofs.Ytnkapponcbgbhaa
open Go
def bookU (us : List Us) (m : Mp) : Prop := ∀ d x, mgt d m = some x → 0 ≤ findU us x
theorem bookU_aft {us : List Us} {m : Mp} (h : bookU us m) (e : Evn) : bookU us (aftM us m e) := by
  unfold aftM
  split
  · intro d x hx; simp [mgt] at hx
  · unfold whoS
    split
    · split
      · rename_i ht
        intro d x hx
        rw [mgt_mst] at hx
        split at hx
        · injection hx with hx; subst hx; exact of_decide_eq_true ht
        · exact h d x hx
      · exact h
    · split <;> exact h
theorem bookU_st {us : List Us} : ∀ (l : List Evn) (m : Mp), bookU us m → bookU us (stM us m l)
  | [], _, h => h
  | e :: r, m, h => bookU_st r _ (bookU_aft h e)
theorem who_user (us : List Us) (m : Mp) (hm : bookU us m) (e : Evn) : (kindE e = -1 → (whoS us m e).1 = 0) ∧ ((whoS us m e).1 ≠ 0 → 0 ≤ findU us (whoS us m e).1) ∧
    (kindE e = 0 → (0 ≤ findU us (fraE e).user → (whoS us m e).1 = (fraE e).user) ∧ (¬ 0 ≤ findU us (fraE e).user → (whoS us m e).1 = 0)) := by
  unfold whoS
  refine ⟨fun h => by rw [if_neg (by omega), if_neg (by omega)], fun h => ?_, fun h => ?_⟩
  · by_cases h0 : kindE e = 0
    · rw [if_pos h0] at h ⊢
      by_cases ht : thereU us (fraE e).user = true
      · rw [if_pos ht]; exact of_decide_eq_true ht
      · rw [if_neg ht] at h; exact absurd rfl h
    · rw [if_neg h0] at h ⊢
      by_cases h2 : kindE e = 2 ∨ kindE e = 4
      · rw [if_pos h2] at h ⊢
        cases hg : mgt (fraE e).sess m with
        | none => rw [hg] at h; exact absurd rfl h
        | some x => exact hm _ x hg
      · rw [if_neg h2] at h; exact absurd rfl h
  · rw [if_pos h]
    exact ⟨fun ht => by rw [if_pos (show thereU us (fraE e).user = true from decide_eq_true ht)], fun ht => by rw [if_neg (by simpa [thereU] using ht)]⟩
set_option maxHeartbeats 32000000 in
theorem usersP_law (us : List Us) (l : List Evn) (i : Int) (ho : ∀ e ∈ l, okEv e) : ∃ out, sem tab 2001 12 4 [.l false (usL us), .l false (evL l), .i .i64 i] [] = some (.b true, out) := by
  rw [sem_succ tab 2001 11 4 m4 rfl]
  have h9 := awakeP
  have h10 := U27 1001 10 us
  have h11 := W11 1001 10 l
  have el := evL_len l
  by_cases f : (fewU us && fewV l) = true ∧ (0 ≤ i ∧ i < (l.length : Int))
  case neg =>
    rw [← el] at f
    clear el ho
    generalize fewU us = f1 at *
    generalize fewV l = f2 at *
    generalize usL us = a at *
    generalize evL l = b at *
    cases f1
    · simp -implicitDefEqProofs (maxSteps := 1000000) (disch := first | omega | rfl) [m4, h9, h10, h11, KS, getS, gS, zipN, dropW, takeW, wds, refs, refsL, noExt, ren, boxO, putW, putB, -getElem?_pos]
    · cases f2
      · simp -implicitDefEqProofs (maxSteps := 1000000) (disch := first | omega | rfl) [m4, h9, h10, h11, KS, getS, gS, zipN, dropW, takeW, wds, refs, refsL, noExt, ren, boxO, putW, putB, -getElem?_pos]
      · by_cases h0 : i < 0
        · simp -implicitDefEqProofs (maxSteps := 1000000) (disch := first | omega | rfl) [m4, h9, h10, h11, h0, KS, getS, gS, zipN, dropW, takeW, wds, refs, refsL, noExt, ren, boxO, putW, putB, -getElem?_pos]
        · have h1 : i ≥ (b.length : Int) := by
            by_cases h : i ≥ (b.length : Int)
            · exact h
            · exact absurd ⟨rfl, by omega, by omega⟩ f
          simp -implicitDefEqProofs (maxSteps := 1000000) (disch := first | omega | rfl) [m4, h9, h10, h11, h0, h1, KS, getS, gS, zipN, dropW, takeW, wds, refs, refsL, noExt, ren, boxO, putW, putB, -getElem?_pos]
  case pos =>
  obtain ⟨f12, hi0, hi1⟩ := f
  rw [Bool.and_eq_true] at f12
  obtain ⟨f1, f2⟩ := f12
  rw [f1] at h10
  rw [f2] at h11
  have fu := fewU_len f1
  obtain ⟨fl, fb⟩ := fewV_spec f2
  have hf : ∀ e ∈ l, fewE e := fun e he => ⟨by have := fb e he; omega, ho e he⟩
  have h13 := W13 1000 3 us [] 0 0 (evL l) l (EvR_L l) (by omega) (by omega) hf
  obtain ⟨j, rfl⟩ : ∃ j : Nat, i = j := ⟨i.toNat, by omega⟩
  have hj : j < l.length := by omega
  have hjw : j < (whoL us [] l).length := by rw [whoL_len]; exact hj
  have hx := evL_get l j hj
  have hw := iL_get (whoL us [] l) j hjw
  have hW := whoL_get us l [] j l[j] (List.getElem?_eq_getElem hj)
  rw [List.getElem?_eq_getElem hjw] at hW
  injection hW with hW
  have hbk : bookU us (stM us [] (l.take j)) := bookU_st _ _ (fun d x hx => by simp [mgt] at hx)
  obtain ⟨k1, k2, k3⟩ := who_user us _ hbk l[j]
  rw [← hW] at k1 k2 k3
  clear hbk hW
  have h20 := V11 1001 5 l[j].raw (hf _ (List.getElem_mem hj)).1 (hf _ (List.getElem_mem hj)).2
  have hA := U34u 1000 8 us (whoL us [] l)[j] (by omega)
  have hB := U34u 1000 8 us (fraE l[j]).user (by omega)
  have e2 : (iL (whoL us [] l)).length = l.length := by rw [iL_len, whoL_len]
  have c0 : ¬ ((j : Int) < 0) := by omega
  have c1 : ¬ ((j : Int) ≥ ((evL l).length : Int)) := by omega
  have c2 : (j : Int) < (l.length : Int) := by omega
  have c3 : ¬ l.length ≤ j := by omega
  unfold outRd okR errR at h20
  clear ho hf fb fu fl f1 f2 hi0 hi1
  generalize (whoL us [] l)[j] = W at *
  generalize iL (whoL us [] l) = w at *
  generalize findU us W = fw at *
  unfold fraE at hB k3
  unfold kindE at k1 k3
  generalize l[j] = e at *
  obtain ⟨k, raw, dr, bo, ke⟩ := e
  simp only [evC] at hx h20 hB k1 k3
  have W0 : ¬ fw < 0 ∨ W = 0 := by
    by_cases h : W = 0
    · exact .inr h
    · exact .inl (by have := k2 h; omega)
  generalize hz' : List.replicate 32 (PV.i .u8 0) = zz at *
  by_cases hk : k = 0
  case neg =>
    have hW0 := k1 (by rw [if_neg (by intro h; exact hk h.1)])
    subst hW0
    have hk' : (k == 0) = false := by simpa using hk
    clear k1 k2 k3 hB W0
    generalize goodF raw = gd at *
    generalize seemF raw = sf at *
    obtain ⟨z1, z2, z3, z4, z5, z6, z7, z8, z9⟩ := sf
    simp only [frC, zeF] at h20
    generalize errF raw = er at *
    generalize byL raw = rb at *
    generalize uL z9 = q at *
    generalize uL z32 = q2 at *
    generalize usL us = a at *
    generalize evL l = b at *
    cases gd
    · rw [cond_false] at h20
      simp -implicitDefEqProofs (maxSteps := 1000000) (disch := first | omega | rfl) [m4, h9, h10, h11, h13, h20, hx, hw, hk', el, e2, c0, c2, c3, hz', KS, getS, getO, gS, zipN, dropW, takeW, wds, refs, refsL, noExt, noExts, ren, renL, boxO, row, putW, putB, newOs, renO, noExtO, -getElem?_pos]
    · rw [cond_true] at h20
      simp -implicitDefEqProofs (maxSteps := 1000000) (disch := first | omega | rfl) [m4, h9, h10, h11, h13, h20, hx, hw, hk', el, e2, c0, c2, c3, hz', KS, getS, getO, gS, zipN, dropW, takeW, wds, refs, refsL, noExt, noExts, ren, renL, boxO, row, putW, putB, newOs, renO, noExtO, -getElem?_pos]
  case pos =>
  subst hk
  cases hg : goodF raw
  · have hW0 := k1 (by rw [if_neg (by intro h; rw [hg] at h; cases h.2)])
    subst hW0
    rw [hg, cond_false] at h20
    have he' : (errF raw == 0) = false := by
      have : errF raw ≠ 0 := by unfold errF; split; · decide
                                · split <;> decide
      simpa using this
    clear k1 k2 k3 hB W0
    simp only [frC, zeF] at h20
    generalize errF raw = er at *
    generalize byL raw = rb at *
    generalize uL z32 = q2 at *
    generalize usL us = a at *
    generalize evL l = b at *
    simp -implicitDefEqProofs (maxSteps := 1000000) (disch := first | omega | rfl) [m4, h9, h10, h11, h13, h20, hx, hw, he', el, e2, c0, c2, c3, hz', KS, getS, getO, gS, zipN, dropW, takeW, wds, refs, refsL, noExt, noExts, ren, renL, boxO, row, putW, putB, newOs, renO, noExtO, -getElem?_pos]
  · rw [hg, cond_true] at h20
    rw [if_pos ⟨rfl, hg⟩] at k3
    clear k1 k2
    generalize seemF raw = sf at *
    obtain ⟨z1, z2, z3, z4, z5, z6, z7, z8, z9⟩ := sf
    simp only [frC] at h20 hB k3
    generalize findU us z2 = ff at *
    generalize byL raw = rb at *
    generalize uL z9 = q at *
    generalize usL us = a at *
    generalize evL l = b at *
    by_cases hz : z1 = 0
    · obtain ⟨k4, k5⟩ := k3 hz
      subst hz
      by_cases hff : 0 ≤ ff
      · have hff' : ff ≥ 0 := hff
        have hWe := k4 hff
        subst hWe
        have hfe : fw = ff := by have h := hA.symm.trans hB; simpa using h
        subst hfe
        by_cases hW0 : W = 0
        · subst hW0
          simp -implicitDefEqProofs (maxSteps := 1000000) (disch := first | omega | rfl) [m4, h9, h10, h11, h13, h20, hx, hw, hA, hff, el, e2, c0, c2, c3, hz', KS, getS, getO, gS, zipN, dropW, takeW, wds, refs, refsL, noExt, noExts, ren, renL, boxO, row, putW, putB, newOs, renO, noExtO, -getElem?_pos]
        · have hW1 : (W != 0) = true := by simpa using hW0
          have hfw : ¬ fw < 0 := W0.resolve_right hW0
          simp -implicitDefEqProofs (maxSteps := 1000000) (disch := first | omega | rfl) [m4, h9, h10, h11, h13, h20, hx, hw, hA, hff, hW1, hfw, el, e2, c0, c2, c3, hz', KS, getS, getO, gS, zipN, dropW, takeW, wds, refs, refsL, noExt, noExts, ren, renL, boxO, row, putW, putB, newOs, renO, noExtO, -getElem?_pos]
      · have hff' : ¬ ff ≥ 0 := hff
        have hfl : ff < 0 := by omega
        have hWe := k5 hff
        subst hWe
        simp -implicitDefEqProofs (maxSteps := 1000000) (disch := first | omega | rfl) [m4, h9, h10, h11, h13, h20, hx, hw, hB, hff, hfl, el, e2, c0, c2, c3, hz', KS, getS, getO, gS, zipN, dropW, takeW, wds, refs, refsL, noExt, noExts, ren, renL, boxO, row, putW, putB, newOs, renO, noExtO, -getElem?_pos]
    · have hz1 : (z1 == 0) = false := by simpa using hz
      clear k3
      by_cases hW0 : W = 0
      · subst hW0
        simp -implicitDefEqProofs (maxSteps := 1000000) (disch := first | omega | rfl) [m4, h9, h10, h11, h13, h20, hx, hw, hz1, el, e2, c0, c2, c3, hz', KS, getS, getO, gS, zipN, dropW, takeW, wds, refs, refsL, noExt, noExts, ren, renL, boxO, row, putW, putB, newOs, renO, noExtO, -getElem?_pos]
      · have hW1 : (W != 0) = true := by simpa using hW0
        have hfw : ¬ fw < 0 := W0.resolve_right hW0
        simp -implicitDefEqProofs (maxSteps := 1000000) (disch := first | omega | rfl) [m4, h9, h10, h11, h13, h20, hx, hw, hA, hz1, hW1, hfw, el, e2, c0, c2, c3, hz', KS, getS, getO, gS, zipN, dropW, takeW, wds, refs, refsL, noExt, noExts, ren, renL, boxO, row, putW, putB, newOs, renO, noExtO, -getElem?_pos]
theorem Pure.PartUsers (us : List PV) (h : TyAll Try.prog 8 [22, 23, 3] us) : ∃ N d out, sem tab N d 4 us [] = some (.b true, out) := by
  simp only [TyAll] at h
  obtain ⟨v0, _, rfl, h0, v1, _, rfl, h1, v2, _, rfl, h2, rfl⟩ := h
  obtain ⟨u, hu, rfl⟩ := users_of h0
  obtain ⟨l, hl, rfl⟩ := evs_of h1
  obtain ⟨i, _, _, rfl⟩ := int_of h2
  obtain ⟨out, h⟩ := usersP_law u l i hl
  exact ⟨_, _, out, h⟩
end Go.Proofs.Ytnkapponcbgbhaa
