/- One user more: the plain law. -/
import Derived.Test.YtcimkkcajkmfoaaDoorPureUh
set_option linter.all false
set_option linter.unusedSimpArgs false
set_option linter.unusedVariables false
namespace Go.Proofs.YtcimkkcajkmfoaaDoor
open Go
theorem dis_nil (x g : Bool) (xs : List (List PV)) (b : List PV) : dis [.e x, .l g xs] b = some () := by simp [dis, refsL, refs]
set_option maxHeartbeats 16000000 in
theorem more_law (l : List Us) (u : Us) : ∃ out, sem tab 2000 13 8 [.l false (usL l), .agg (uC u)] [] = some (.b true, out) := by
  rw [sem_succ tab 2000 12 8 m8 rfl]
  have h26 := awakeU
  have h27 := U27 1000 11 l
  have hn := usL_len l
  cases hf : fewU l
  · rw [hf] at h27
    obtain ⟨un, ur, uk⟩ := u
    simp only [uC]
    generalize byL uk = b at *
    generalize usL l = a at *
    simp -implicitDefEqProofs (maxSteps := 1000000) (disch := first | omega | rfl) [m8, h26, h27, KS, getS, getO, gS, zipN, dropW, takeW, wds, stvs, sea, seaL, refs, refsL, refsEls, refsO, isPureEls, isPures, isPure, noExt, noExts, noExtEls, cellsL, ren, renL, renEls, keepO, keepS, keysO, refsS, refsOB, cntN, headC, setS, boxO, row, putW, putB, putB1, eNl, newOs, frz, renO, noExtO, zps, zp, two32, w64, -getElem?_pos]
  · rw [hf] at h27
    obtain ⟨k1, k2⟩ := few_spec hf
    by_cases f1 : (u.2.2.length : Int) > 100
    · have f1' : 100 < (u.2.2.length : Int) := f1
      obtain ⟨un, ur, uk⟩ := u
      simp only [uC] at f1 f1' ⊢
      rw [← byL_len] at f1 f1'
      generalize byL uk = b at *
      generalize usL l = a at *
      simp -implicitDefEqProofs (maxSteps := 1000000) (disch := first | omega | rfl) [m8, h26, h27, f1, f1', KS, getS, getO, gS, zipN, dropW, takeW, wds, stvs, sea, seaL, refs, refsL, refsEls, refsO, isPureEls, isPures, isPure, noExt, noExts, noExtEls, cellsL, ren, renL, renEls, keepO, keepS, keysO, refsS, refsOB, cntN, headC, setS, boxO, row, putW, putB, putB1, eNl, newOs, frz, renO, noExtO, zps, zp, two32, w64, -getElem?_pos]
    · have f1' : ¬ 100 < (u.2.2.length : Int) := f1
      have h32 := U32 1000 10 l (by omega)
      cases hm : mayU l
      · rw [hm] at h32
        obtain ⟨un, ur, uk⟩ := u
        simp only [uC] at f1 f1' ⊢
        rw [← byL_len] at f1 f1'
        generalize byL uk = b at *
        generalize usL l = a at *
        simp -implicitDefEqProofs (maxSteps := 1000000) (disch := first | omega | rfl) [m8, h26, h27, h32, f1, f1', KS, getS, getO, gS, zipN, dropW, takeW, wds, stvs, sea, seaL, refs, refsL, refsEls, refsO, isPureEls, isPures, isPure, noExt, noExts, noExtEls, cellsL, ren, renL, renEls, keepO, keepS, keysO, refsS, refsOB, cntN, headC, setS, boxO, row, putW, putB, putB1, eNl, newOs, frz, renO, noExtO, zps, zp, two32, w64, -getElem?_pos]
      · rw [hm] at h32
        obtain ⟨hm0, hl8⟩ := may_from hm
        have h32m : sem tab 2000 12 21 [.l false (usL l ++ [uC u])] [] = some (.b (mayU (l ++ [u])), []) := by
          have := U32 1000 10 (l ++ [u]) (by simp; omega)
          rw [show usL (l ++ [u]) = usL l ++ [uC u] by simp [usL]] at this
          exact this
        have h32u : sem tab 2000 12 21 [.l false [uC u]] [] = _ := U32 1000 10 [u] (by simp)
        rw [may1] at h32u
        have hlast := last_ge l 0 hm0
        have hval : mayU (l ++ [u]) = (decide (l.length < 8) && (decide (lastU 0 l < u.1) && okU 0 u)) := by
          simp only [mayU, may_snoc, hm0, Bool.true_and, ok_last _ u hlast, List.length_append, List.length_singleton]
          rw [Bool.and_comm]
          congr 1
        rw [hval] at h32m
        have behind : (l = [] ∧ (okU 0 u = true → lastU 0 l < u.1)) ∨ ∃ v, l[l.length - 1]? = some v ∧ lastU 0 l = v.1 ∧ 0 < l.length := by
          cases hc : l with
          | nil =>
            refine .inl ⟨rfl, fun h => ?_⟩
            simp only [okU, inB, Bool.and_eq_true, decide_eq_true_eq] at h
            simp only [lastU]; omega
          | cons x r =>
            right
            have : (x :: r)[(x :: r).length - 1]? = some ((x :: r)[(x :: r).length - 1]'(by simp)) := List.getElem?_eq_getElem _
            exact ⟨_, this, last_get _ 0 _ this, by simp⟩
        have wl := allW_us l
        have hle : (usL l).length ≤ 10 := by omega
        have d1 : (usL l).length ≤ 4294967296 := by omega
        have d2 : (usL l).length + 1 ≤ 4294967296 := by omega
        have e1 : ¬ ((usL l).length + 1 ≤ (usL l).length) := by omega
        have t1 : List.take (usL l).length (usL l) = usL l := List.take_length
        have t2 : ∀ w : List PV, List.take ((usL l).length + 1) (usL l ++ [w]) = usL l ++ [w] := fun w => List.take_of_length_le (by simp)
        rw [← hn] at h32m
        by_cases c8 : (usL l).length < 8
        · have c8i : ((usL l).length : Int) < 8 := by omega
          rw [decide_eq_true c8, Bool.true_and] at h32m
          rcases behind with ⟨rfl, hb⟩ | ⟨v, hv, hlv, h0⟩
          · obtain ⟨un, ur, uk⟩ := u
            have h32m' : sem tab 2000 12 21 [.l false ([] ++ [uC (un, ur, uk)])] [] = some (.b (okU 0 (un, ur, uk)), []) := by
              have hz : (decide (lastU 0 ([] : List Us) < (un, ur, uk).1) && okU 0 (un, ur, uk)) = okU 0 (un, ur, uk) := by
                cases ho : okU 0 (un, ur, uk)
                · simp
                · rw [decide_eq_true (hb ho)]; rfl
              rw [hz] at h32m
              exact h32m
            simp only [uC] at f1 f1' h32u h32m' ⊢
            rw [← byL_len] at f1 f1'
            simp only [show usL ([] : List Us) = [] from rfl] at h27 h32 ⊢
            generalize byL uk = b at *
            generalize okU 0 (un, ur, uk) = q at *
            clear h32m hval hb
            simp only [List.nil_append] at h32m'
            simp -implicitDefEqProofs (maxSteps := 1000000) (disch := first | omega | rfl) [m8, dis_nil, h26, h27, h32, h32u, h32m', f1, f1', KS, getS, getO, gS, zipN, dropW, takeW, wds, stvs, sea, seaL, refs, refsL, refsEls, refsO, isPureEls, isPures, isPure, noExt, noExts, noExtEls, cellsL, ren, renL, renEls, keepO, keepS, keysO, refsS, refsOB, cntN, headC, setS, boxO, row, putW, putB, putB1, eNl, newOs, frz, renO, noExtO, zps, zp, two32, w64, -getElem?_pos]
          · have hx : (usL l)[l.length - 1]? = some (uC v) := by rw [usL, List.getElem?_map, hv]; rfl
            rw [hlv] at h32m
            obtain ⟨un, ur, uk⟩ := u
            obtain ⟨vn, vr, vk⟩ := v
            simp only [uC] at f1 f1' h32u h32m hx ⊢
            rw [← byL_len] at f1 f1'
            rw [← hn] at hx h0
            have w1 : IntKind.i64.wrap (((usL l).length : Int) - 1) = (((usL l).length - 1 : Nat) : Int) := by rw [w64 (by omega) (by omega)]; omega
            have z1 : (((usL l).length : Int) == 0) = false := by rw [beq_eq_false_iff_ne]; omega
            have z2 : (((usL l).length - 1 : Nat) : Int) < (usL l).length := by omega
            have z3 : (0 : Int) ≤ (((usL l).length - 1 : Nat) : Int) := by omega
            have z4 : ((((usL l).length - 1 : Nat) : Int)).toNat = (usL l).length - 1 := by omega
            generalize byL uk = b at *
            generalize byL vk = b' at *
            generalize okU 0 (un, ur, uk) = q at *
            clear hval hlv hv hlast
            by_cases cb : vn < un
            · have cb' : un > vn := cb
              rw [decide_eq_true cb, Bool.true_and] at h32m
              generalize usL l = a at *
              generalize hk : ((a.length - 1 : Nat) : Int) = kk at *
              cases q <;> simp -implicitDefEqProofs (maxSteps := 1000000) (disch := first | omega | rfl) [m8, dis_nil, h26, h27, h32, h32u, h32m, hx, wl, f1, f1', w1, z1, z2, z3, z4, d1, d2, e1, t1, t2, c8, c8i, cb, cb', KS, getS, getO, gS, zipN, dropW, takeW, wds, stvs, sea, seaL, refs, refsL, refsEls, refsO, isPureEls, isPures, isPure, noExt, noExts, noExtEls, cellsL, ren, renL, renEls, keepO, keepS, keysO, refsS, refsOB, cntN, headC, setS, boxO, row, putW, putB, putB1, eNl, newOs, frz, renO, noExtO, zps, zp, two32, w64, -getElem?_pos]
            · have cb' : ¬ un > vn := cb
              rw [decide_eq_false cb, Bool.false_and] at h32m
              generalize usL l = a at *
              generalize hk : ((a.length - 1 : Nat) : Int) = kk at *
              simp -implicitDefEqProofs (maxSteps := 1000000) (disch := first | omega | rfl) [m8, dis_nil, h26, h27, h32, h32u, h32m, hx, wl, f1, f1', w1, z1, z2, z3, z4, d1, d2, e1, t1, t2, c8, c8i, cb, cb', KS, getS, getO, gS, zipN, dropW, takeW, wds, stvs, sea, seaL, refs, refsL, refsEls, refsO, isPureEls, isPures, isPure, noExt, noExts, noExtEls, cellsL, ren, renL, renEls, keepO, keepS, keysO, refsS, refsOB, cntN, headC, setS, boxO, row, putW, putB, putB1, eNl, newOs, frz, renO, noExtO, zps, zp, two32, w64, -getElem?_pos]
        · have c8i : ¬ ((usL l).length : Int) < 8 := by omega
          rw [decide_eq_false c8, Bool.false_and] at h32m
          rcases behind with ⟨rfl, hb⟩ | ⟨v, hv, hlv, h0⟩
          · exact absurd (show (usL ([] : List Us)).length < 8 by simp [usL]) c8
          · have hx : (usL l)[l.length - 1]? = some (uC v) := by rw [usL, List.getElem?_map, hv]; rfl
            obtain ⟨un, ur, uk⟩ := u
            obtain ⟨vn, vr, vk⟩ := v
            simp only [uC] at f1 f1' h32u h32m hx ⊢
            rw [← byL_len] at f1 f1'
            rw [← hn] at hx h0
            have w1 : IntKind.i64.wrap (((usL l).length : Int) - 1) = (((usL l).length - 1 : Nat) : Int) := by rw [w64 (by omega) (by omega)]; omega
            have z1 : (((usL l).length : Int) == 0) = false := by rw [beq_eq_false_iff_ne]; omega
            have z2 : (((usL l).length - 1 : Nat) : Int) < (usL l).length := by omega
            have z3 : (0 : Int) ≤ (((usL l).length - 1 : Nat) : Int) := by omega
            have z4 : ((((usL l).length - 1 : Nat) : Int)).toNat = (usL l).length - 1 := by omega
            generalize byL uk = b at *
            generalize byL vk = b' at *
            clear hval hlv hv hlast
            generalize usL l = a at *
            generalize hk : ((a.length - 1 : Nat) : Int) = kk at *
            simp -implicitDefEqProofs (maxSteps := 1000000) (disch := first | omega | rfl) [m8, dis_nil, h26, h27, h32, h32m, hx, wl, f1, f1', w1, z1, z2, z3, z4, d1, d2, e1, t1, t2, c8, c8i, KS, getS, getO, gS, zipN, dropW, takeW, wds, stvs, sea, seaL, refs, refsL, refsEls, refsO, isPureEls, isPures, isPure, noExt, noExts, noExtEls, cellsL, ren, renL, renEls, keepO, keepS, keysO, refsS, refsOB, cntN, headC, setS, boxO, row, putW, putB, putB1, eNl, newOs, frz, renO, noExtO, zps, zp, two32, w64, -getElem?_pos]
set_option maxRecDepth 100000 in
theorem Pure.UserMore (us : List PV) (h : TyAll Tryd.prog 8 [22, 25] us) : ∃ N d out, sem tab N d 8 us [] = some (.b true, out) := by
  simp only [TyAll] at h
  obtain ⟨v0, _, rfl, h0, v1, _, rfl, h1, rfl⟩ := h
  obtain ⟨l, hl, rfl⟩ := users_of h0
  obtain ⟨u, hu, rfl⟩ := user_of h1
  obtain ⟨out, h⟩ := more_law l u
  exact ⟨_, _, out, h⟩
end Go.Proofs.YtcimkkcajkmfoaaDoor
