/- Records that are cut off anywhere are read up to the last whole one: the plain law. -/
import Derived.Test.YtcimkkcajkmfoaaDoorPgC
set_option linter.all false
set_option linter.unusedSimpArgs false
set_option linter.unusedVariables false
namespace Go.Proofs.YtcimkkcajkmfoaaDoor
open Go
/-- Of whole records a beginning is whole records, and less than one. -/
theorem take_rec : ∀ (l : List En) (h : List Int) (K : Nat), K ≤ 62 * l.length → ∃ r : List Int, (recL h l).take K = recL h (l.take (K / 62)) ++ r ∧ r.length = K % 62
  | [], h, K, hK => ⟨[], by simp [recL], by simp at hK; subst hK; rfl⟩
  | e :: l, h, K, hK => by
    have l62 : (encB e ++ linkH h e).length = 62 := by simp [encB_len, linkH_len]
    by_cases c : K < 62
    · refine ⟨(encB e ++ linkH h e).take K, ?_, by rw [List.length_take, l62]; omega⟩
      rw [show K / 62 = 0 by omega, recL, List.take_append_of_le_length (by omega)]
      simp [recL]
    · obtain ⟨r, h1, h2⟩ := take_rec l (linkH h e) (K - 62) (by simp only [List.length_cons] at hK; omega)
      refine ⟨r, ?_, by rw [h2]; omega⟩
      rw [show K / 62 = (K - 62) / 62 + 1 by omega, List.take_succ_cons]
      simp only [recL]
      rw [List.append_assoc (encB e ++ linkH h e), ← h1]
      conv => lhs; rw [show K = 62 + (K - 62) by omega, List.take_add]
      rw [List.take_append_of_le_length (by omega), List.take_of_length_le (by omega), List.drop_append_of_le_length (by omega), List.drop_of_length_le (by omega), List.nil_append]
theorem enL_take (l : List En) (n : Nat) : (enL l).take n = enL (l.take n) := by simp [enL, List.map_take]
set_option maxHeartbeats 32000000 in
theorem torn_law (l : List En) (k : Int) (hl : ∀ e ∈ l, okE e) : ∃ out, sem tab 1000 12 12 [.l false (enL l), .i .i64 k] [] = some (.b true, out) := by
  rw [sem_succ tab 1000 11 12 m12 rfl]
  have h30 := awakeC 0 0
  have el := enL_len l
  by_cases f : (l.length : Int) > 20
  · have f' : 20 < (l.length : Int) := f
    rw [← el] at f f'
    generalize enL l = b at *
    simp -implicitDefEqProofs (maxSteps := 1000000) (disch := first | omega | rfl) [m12, h30, f, f', KS, getS, getO, gS, zipN, dropW, takeW, wds, stvs, sea, seaL, refs, refsL, refsEls, refsO, isPureEls, isPures, isPure, noExt, noExts, noExtEls, cellsL, ren, renL, renEls, keepO, keepS, keysO, refsS, refsOB, cntN, headC, setS, boxO, row, putW, putB, putB1, eNl, newOs, frz, renO, noExtO, zps, zp, two32, w64, -getElem?_pos]
  · have f' : ¬ 20 < (l.length : Int) := f
    have hz := hz32
    have hzl : (List.replicate 32 (PV.i IntKind.u8 0)).length = 32 := rfl
    have h32 := V32 0 2 l (by omega) hl
    cases hm : l.all mayE
    · rw [hm] at h32
      simp only [noPut, row, cond_false, ← hz] at h32
      rw [← el] at f f'
      generalize enL l = b at *
      clear hz
      generalize hz' : List.replicate 32 (PV.i .u8 0) = zz at *
      simp -implicitDefEqProofs (maxSteps := 1000000) (disch := first | omega | rfl) [m12, h30, h32, f, f', hz', hzl, box, KY, KV, KS, getS, getO, gS, zipN, dropW, takeW, wds, stvs, sea, seaL, refs, refsL, refsEls, refsO, isPureEls, isPures, isPure, noExt, noExts, noExtEls, cellsL, ren, renL, renEls, keepO, keepS, keysO, refsS, refsOB, cntN, headC, setS, boxO, row, putW, putB, putB1, eNl, newOs, frz, renO, noExtO, zps, zp, two32, w64, -getElem?_pos]
    · rw [hm] at h32
      have rl := recL_len l h0
      have ql := byL_len (recL h0 l)
      rw [rl] at ql
      have tkq : List.take (62 * l.length) (byL (recL h0 l)) = byL (recL h0 l) := List.take_of_length_le (by omega)
      simp only [yesPut, cond_true, rl, row] at h32
      by_cases k0 : k < 0
      · rw [← el] at f f' ql tkq h32
        generalize byL (recL h0 l) = q at *
        generalize uL (hdL h0 l) = u at *
        generalize enL l = b at *
        clear hz
        generalize hz' : List.replicate 32 (PV.i .u8 0) = zz at *
        simp -implicitDefEqProofs (maxSteps := 1000000) (disch := first | omega | rfl) [m12, h30, h32, f, f', k0, ql, tkq, hz', hzl, box, KY, KV, KS, getS, getO, gS, zipN, dropW, takeW, wds, stvs, sea, seaL, refs, refsL, refsEls, refsO, isPureEls, isPures, isPure, noExt, noExts, noExtEls, cellsL, ren, renL, renEls, keepO, keepS, keysO, refsS, refsOB, cntN, headC, setS, boxO, row, putW, putB, putB1, eNl, newOs, frz, renO, noExtO, zps, zp, two32, w64, -getElem?_pos]
      · obtain ⟨K, rfl⟩ := Int.eq_ofNat_of_zero_le (show 0 ≤ k by omega)
        by_cases kg : (K : Int) > ((62 * l.length : Nat) : Int)
        · have kg' : ((62 * l.length : Nat) : Int) < (K : Int) := kg
          rw [← el] at f f' ql tkq h32 kg kg'
          generalize byL (recL h0 l) = q at *
          generalize uL (hdL h0 l) = u at *
          generalize enL l = b at *
          generalize 62 * b.length = t at *
          clear hz
          generalize hz' : List.replicate 32 (PV.i .u8 0) = zz at *
          simp -implicitDefEqProofs (maxSteps := 1000000) (disch := first | omega | rfl) [m12, h30, h32, f, f', k0, kg, kg', ql, tkq, hz', hzl, box, KY, KV, KS, getS, getO, gS, zipN, dropW, takeW, wds, stvs, sea, seaL, refs, refsL, refsEls, refsO, isPureEls, isPures, isPure, noExt, noExts, noExtEls, cellsL, ren, renL, renEls, keepO, keepS, keysO, refsS, refsOB, cntN, headC, setS, boxO, row, putW, putB, putB1, eNl, newOs, frz, renO, noExtO, zps, zp, two32, w64, -getElem?_pos]
        · have kg' : ¬ ((62 * l.length : Nat) : Int) < (K : Int) := kg
          obtain ⟨r, hr1, hr2⟩ := take_rec l h0 K (by omega)
          have hml : K / 62 ≤ l.length := by omega
          have tl : (l.take (K / 62)).length = K / 62 := by rw [List.length_take]; omega
          have hmt : (l.take (K / 62)).all mayE = true := by
            rw [List.all_eq_true] at hm ⊢
            exact fun x hx => hm x (List.mem_of_mem_take hx)
          have hot : ∀ e ∈ l.take (K / 62), okE e := fun x hx => hl x (List.mem_of_mem_take hx)
          obtain ⟨a1, a2, a3⟩ := rd_recs (l.take (K / 62)) r hmt hot (by omega) (by omega)
          rw [← hr1] at a1 a2 a3
          have lk : ((recL h0 l).take K).length = K := by rw [List.length_take, rl]; omega
          have bR : byR ((recL h0 l).take K) := byR_take K (recL_R l h0 h0_R)
          have h31 := V31 0 1 ((recL h0 l).take K) (by omega) bR
          have h33 := V33 0 1 ((recL h0 l).take K) (by omega) bR
          rw [a1, a2] at h31
          rw [a3, hr2] at h33
          have h32' := V32 0 2 (l.take (K / 62)) (by omega) hot
          rw [hmt] at h32'
          have h37 := V37 0 9 (l.take (K / 62)) (l.take (K / 62)) (by omega)
          rw [(sameL_iff _ _).2 rfl] at h37
          have rl' := recL_len (l.take (K / 62)) h0
          have ql' := byL_len (recL h0 (l.take (K / 62)))
          rw [rl', tl] at ql'
          have te : List.take (K / 62) (enL (l.take (K / 62))) = enL (l.take (K / 62)) := List.take_of_length_le (by rw [enL_len]; omega)
          have elt := enL_len (l.take (K / 62))
          rw [tl] at elt
          have tq' : List.take (62 * (K / 62)) (byL (recL h0 (l.take (K / 62)))) = byL (recL h0 (l.take (K / 62))) := List.take_of_length_le (by omega)
          have uu := eqIs_uu (hdL h0 (l.take (K / 62)))
          have wl := allW_en l
          simp only [outR, yesPut, outV, cond_true, rl', tl, row] at h31 h32' h33
          rw [← byL_take] at h31 h33
          have et := enL_take l (K / 62)
          have wq : IntKind.i64.wrap ((K : Int).tdiv 62) = ((K / 62 : Nat) : Int) := by
            rw [Int.tdiv_eq_ediv_of_nonneg (by omega), w64 (by omega) (by omega)]; omega
          have rm : (K : Int).tmod 62 = ((K % 62 : Nat) : Int) := by
            rw [Int.tmod_eq_emod_of_nonneg (by omega)]; omega
          have wq2 : IntKind.i64.wrap ((K : Int) / 62) = ((K / 62 : Nat) : Int) := by rw [w64 (by omega) (by omega)]; omega
          have rm2 : (K : Int) % 62 = ((K % 62 : Nat) : Int) := by omega
          have wn : IntKind.i64.wrap (62 * (l.length : Int)) = ((62 * l.length : Nat) : Int) := by rw [w64 (by omega) (by omega)]; omega
          have wm : IntKind.i64.wrap (62 * ((K / 62 : Nat) : Int)) = ((62 * (K / 62) : Nat) : Int) := by rw [w64 (by omega) (by omega)]; omega
          have g1 : ¬ ((K / 62 : Nat) : Int) > l.length := by omega
          have g1' : ¬ (l.length : Int) < ((K / 62 : Nat) : Int) := by omega
          have g2 : ((K / 62 : Nat) : Int) ≤ l.length := by omega
          have g3 : K ≤ 62 * l.length := by omega
          have g4 : (K : Int) ≤ ((62 * l.length : Nat) : Int) := by omega
          have g5 : (0 : Int) ≤ ((K / 62 : Nat) : Int) := by omega
          have g6 : (0 : Int) ≤ (K : Int) := by omega
          have z1 : ((K % 62 == 0) = true ∧ ((((K % 62 : Nat) : Int) == 0) = true)) ∨ ((K % 62 == 0) = false ∧ ((((K % 62 : Nat) : Int) == 0) = false)) := by
            by_cases c : K % 62 = 0
            · exact .inl ⟨by simpa using c, by rw [beq_iff_eq]; omega⟩
            · exact .inr ⟨by simpa using c, by rw [beq_eq_false_iff_ne]; omega⟩
          clear a1 a2 a3 hr1 hr2 hot hmt hml tl rl' rl lk bR hm
          rw [← et] at te h31 h32' h37 elt
          clear et
          rw [← el] at f f' ql tkq h32 kg kg' wn g1 g1' g2 g3 g4
          generalize byL (recL h0 (l.take (K / 62))) = q' at *
          generalize hu : uL (hdL h0 (l.take (K / 62))) = u' at *
          generalize byL (recL h0 l) = q at *
          generalize uL (hdL h0 l) = u at *
          generalize enL l = b at *
          generalize 62 * b.length = t at *
          generalize 62 * (K / 62) = t' at *
          generalize K / 62 = m at *
          generalize K % 62 = rr at *
          rcases z1 with ⟨z1, z2⟩ | ⟨z1, z2⟩
          · rw [z1] at h33
            simp only [cond_true] at h33
            rw [hu] at h33
            clear hz
            generalize hz' : List.replicate 32 (PV.i .u8 0) = zz at *
            simp -implicitDefEqProofs (maxSteps := 1000000) (disch := first | omega | rfl) [m12, h30, h31, h32, h32', h33, h37, f, f', k0, kg, kg', ql, ql', tkq, tq', te, elt, uu, wl, wq, wq2, rm, rm2, wn, wm, g1, g1', g2, g3, g4, g5, g6, z2, hz', hzl, box, KY, KV, KS, getS, getO, gS, zipN, dropW, takeW, wds, stvs, sea, seaL, refs, refsL, refsEls, refsO, isPureEls, isPures, isPure, noExt, noExts, noExtEls, cellsL, ren, renL, renEls, keepO, keepS, keysO, refsS, refsOB, cntN, headC, setS, boxO, row, putW, putB, putB1, eNl, newOs, frz, renO, noExtO, zps, zp, two32, w64, -getElem?_pos]
          · rw [z1] at h33
            simp only [cond_false, ← hz] at h33
            clear hz
            generalize hz' : List.replicate 32 (PV.i .u8 0) = zz at *
            simp -implicitDefEqProofs (maxSteps := 1000000) (disch := first | omega | rfl) [m12, h30, h31, h32, h32', h33, h37, f, f', k0, kg, kg', ql, ql', tkq, tq', te, elt, uu, wl, wq, wq2, rm, rm2, wn, wm, g1, g1', g2, g3, g4, g5, g6, z2, hz', hzl, box, KY, KV, KS, getS, getO, gS, zipN, dropW, takeW, wds, stvs, sea, seaL, refs, refsL, refsEls, refsO, isPureEls, isPures, isPure, noExt, noExts, noExtEls, cellsL, ren, renL, renEls, keepO, keepS, keysO, refsS, refsOB, cntN, headC, setS, boxO, row, putW, putB, putB1, eNl, newOs, frz, renO, noExtO, zps, zp, two32, w64, -getElem?_pos]
theorem Pure.ChainTorn (us : List PV) (h : TyAll Tryd.prog 8 [47, 3] us) : ∃ N d out, sem tab N d 12 us [] = some (.b true, out) := by
  simp only [TyAll] at h
  obtain ⟨v0, _, rfl, h0, v1, _, rfl, h1, rfl⟩ := h
  obtain ⟨l, hl, rfl⟩ := entries_of h0
  obtain ⟨k, _, _, rfl⟩ := int_of h1
  obtain ⟨out, h⟩ := torn_law l k hl
  exact ⟨_, _, out, h⟩
end Go.Proofs.YtcimkkcajkmfoaaDoor
