/- THE STAGE'S THEOREM of users: the plain law. -/
import Derived.Test.YtcimkkcajkmfoaaDoorPureUh
set_option linter.all false
set_option linter.unusedSimpArgs false
set_option linter.unusedVariables false
namespace Go.Proofs.YtcimkkcajkmfoaaDoor
open Go
theorem eqIs_u (ns : List Int) : eqIs (uL ns) (uL ns) = some true := eqIs_self .u8 ns
set_option maxHeartbeats 16000000 in
theorem tells_law (l k : List Us) (no : Int) (u : Us) (e dr cn : Int) (hl : ∀ x ∈ l, okUs x) (hk : ∀ x ∈ k, okUs x) (hu : okUs u) (hd : u64B dr) (hc : u64B cn) : ∃ out, sem tab 2000 13 3 [.l false (usL l), .l false (usL k), .i .i64 no, .agg (uC u), .i .i64 e, .i .u64 dr, .i .u64 cn] [] = some (.b true, out) := by
  rw [sem_succ tab 2000 12 3 m3 rfl]
  have h26 := awakeU
  have h27 := U27 1000 11 l
  have h27k := U27 1000 11 k
  cases hf : fewU l
  · rw [hf] at h27
    generalize fewU k = q at *
    obtain ⟨un, ur, uk⟩ := u
    simp only [uC]
    generalize byL uk = b at *
    generalize usL l = a at *
    generalize usL k = a' at *
    simp -implicitDefEqProofs (maxSteps := 1000000) (disch := first | omega | rfl) [m3, h26, h27, h27k, KS, getS, getO, gS, zipN, dropW, takeW, wds, stvs, sea, seaL, refs, refsL, refsEls, refsO, isPureEls, isPures, isPure, noExt, noExts, noExtEls, cellsL, ren, renL, renEls, keepO, keepS, keysO, refsS, refsOB, cntN, headC, setS, boxO, row, putW, putB, putB1, eNl, newOs, frz, renO, noExtO, zps, zp, two32, w64, -getElem?_pos]
  · cases hg : fewU k
    · rw [hf] at h27
      rw [hg] at h27k
      obtain ⟨un, ur, uk⟩ := u
      simp only [uC]
      generalize byL uk = b at *
      generalize usL l = a at *
      generalize usL k = a' at *
      simp -implicitDefEqProofs (maxSteps := 1000000) (disch := first | omega | rfl) [m3, h26, h27, h27k, KS, getS, getO, gS, zipN, dropW, takeW, wds, stvs, sea, seaL, refs, refsL, refsEls, refsO, isPureEls, isPures, isPure, noExt, noExts, noExtEls, cellsL, ren, renL, renEls, keepO, keepS, keysO, refsS, refsOB, cntN, headC, setS, boxO, row, putW, putB, putB1, eNl, newOs, frz, renO, noExtO, zps, zp, two32, w64, -getElem?_pos]
    · rw [hf] at h27
      rw [hg] at h27k
      obtain ⟨k1, k2⟩ := few_spec hf
      obtain ⟨k3, k4⟩ := few_spec hg
      by_cases f1 : (u.2.2.length : Int) > 100
      · have f1' : 100 < (u.2.2.length : Int) := f1
        obtain ⟨un, ur, uk⟩ := u
        simp only [uC] at f1 f1' ⊢
        rw [← byL_len] at f1 f1'
        generalize byL uk = b at *
        generalize usL l = a at *
        generalize usL k = a' at *
        simp -implicitDefEqProofs (maxSteps := 1000000) (disch := first | omega | rfl) [m3, h26, h27, h27k, f1, f1', KS, getS, getO, gS, zipN, dropW, takeW, wds, stvs, sea, seaL, refs, refsL, refsEls, refsO, isPureEls, isPures, isPure, noExt, noExts, noExtEls, cellsL, ren, renL, renEls, keepO, keepS, keysO, refsS, refsOB, cntN, headC, setS, boxO, row, putW, putB, putB1, eNl, newOs, frz, renO, noExtO, zps, zp, two32, w64, -getElem?_pos]
      · have f1' : ¬ 100 < (u.2.2.length : Int) := f1
        have h28 := U28 1000 1 u e dr cn (by omega) hd hc
        have h29 := U29 1000 2 u e dr cn (by omega) hu.2.2 hd hc
        have h30 := U30u 1000 10 l (by omega)
        have h31 := U31 1000 11 l k (by omega) (fun x hx => (hl x hx).2.2) (fun x hx => (hk x hx).2.2)
        have h32 := U32 1000 10 l (by omega)
        have h33 := U33u 1000 8 l k (by omega) (fun x hx => by have := k2 x hx; omega)
        have h34 := U34u 999 9 l no (by omega)
        have h35 := U35u 1000 9 l no (by omega)
        have h36 := U36u 999 8 l no (by omega)
        have h37 := U37u 1000 8 l no (by omega)
        have hz0 := eqIs_u (secI u e dr cn)
        have hul : (uL (secI u e dr cn)).length = 32 := by simp [uL, secI_len]
        generalize uL (secI u e dr cn) = T at *
        generalize secB u e = q at *
        generalize mayU l = q1 at *
        generalize decide (l = k) = q2 at *
        generalize findU l no = q3 at *
        generalize roleU l no = q4 at *
        obtain ⟨un, ur, uk⟩ := u
        simp only [uC] at f1 f1' h28 h29 ⊢
        rw [← byL_len] at f1 f1'
        generalize byL uk = b at *
        clear hl hk
        generalize usL l = a at *
        generalize usL k = a' at *
        generalize hz : List.replicate 32 (PV.i IntKind.u8 0) = zz at *
        simp -implicitDefEqProofs (maxSteps := 1000000) (disch := first | omega | rfl) [m3, hz, h26, h27, h27k, h28, h29, h30, h31, h32, h33, h34, h35, h36, h37, hz0, hul, f1, f1', KS, getS, getO, gS, zipN, dropW, takeW, wds, stvs, sea, seaL, refs, refsL, refsEls, refsO, isPureEls, isPures, isPure, noExt, noExts, noExtEls, cellsL, ren, renL, renEls, keepO, keepS, keysO, refsS, refsOB, cntN, headC, setS, boxO, row, putW, putB, putB1, eNl, newOs, frz, renO, noExtO, zps, zp, two32, w64, -getElem?_pos]
set_option maxRecDepth 100000 in
theorem Pure.UserTells (us : List PV) (h : TyAll Tryd.prog 8 [22, 22, 3, 25, 3, 26, 26] us) : ∃ N d out, sem tab N d 3 us [] = some (.b true, out) := by
  simp only [TyAll] at h
  obtain ⟨v0, _, rfl, h0, v5, _, rfl, h5, v4, _, rfl, h4, v6, _, rfl, h6, v1, _, rfl, h1, v2, _, rfl, h2, v3, _, rfl, h3, rfl⟩ := h
  obtain ⟨l, hl, rfl⟩ := users_of h0
  obtain ⟨k, hk, rfl⟩ := users_of h5
  obtain ⟨no, _, _, rfl⟩ := int_of h4
  obtain ⟨u, hu, rfl⟩ := user_of h6
  obtain ⟨e, _, _, rfl⟩ := int_of h1
  obtain ⟨dr, hd, rfl⟩ := nat_of h2
  obtain ⟨cn, hc, rfl⟩ := nat_of h3
  obtain ⟨out, h⟩ := tells_law l k no u e dr cn hl hk hu hd hc
  exact ⟨_, _, out, h⟩
end Go.Proofs.YtcimkkcajkmfoaaDoor
