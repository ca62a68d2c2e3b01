/- With one entry more records are as they were, and that one's: the plain law. -/
import Derived.Test.YtcimkkcajkmfoaaDoorPgC
set_option linter.all false
set_option linter.unusedSimpArgs false
set_option linter.unusedVariables false
namespace Go.Proofs.YtcimkkcajkmfoaaDoor
open Go
theorem recL_app : ∀ (l m : List En) (h : List Int), recL h (l ++ m) = recL h l ++ recL (hdL h l) m
  | [], m, h => rfl
  | e :: r, m, h => by simp only [List.cons_append, recL, hdL, recL_app r m, List.append_assoc]
theorem hdL_app : ∀ (l m : List En) (h : List Int), hdL h (l ++ m) = hdL (hdL h l) m
  | [], m, h => rfl
  | e :: r, m, h => by simp only [List.cons_append, hdL, hdL_app r m]
theorem chars_app (a b : List Int) : chars (a ++ b) = chars a ++ chars b := by simp [chars]
theorem chars_len (a : List Int) : (chars a).length = a.length := by simp [chars]
theorem unB_uL (q : List Int) : unB ((uL q).map fun v => [v]) = some (chars q) := by rw [map_u]; exact unB_by q
set_option maxHeartbeats 16000000 in
theorem more_law (l : List En) (e : En) (hl : ∀ e ∈ l, okE e) (he : okE e) : ∃ out, sem tab 1000 12 11 [.l false (enL l), .agg (enC e)] [] = some (.b true, out) := by
  rw [sem_succ tab 1000 11 11 m11 rfl]
  have h30 := awakeC 0 0
  have el := enL_len l
  by_cases f : (l.length : Int) > 20
  · have f' : 20 < (l.length : Int) := f
    rw [← el] at f f'
    generalize enL l = b at *
    obtain ⟨e1, e2, e3, e4, e5, e6, e7, e8, e9⟩ := e
    simp only [enC]
    simp -implicitDefEqProofs (maxSteps := 1000000) (disch := first | omega | rfl) [m11, h30, f, f', KS, getS, getO, gS, zipN, dropW, takeW, wds, stvs, sea, seaL, refs, refsL, refsEls, refsO, isPureEls, isPures, isPure, noExt, noExts, noExtEls, cellsL, ren, renL, renEls, keepO, keepS, keysO, refsS, refsOB, cntN, headC, setS, boxO, row, putW, putB, putB1, eNl, newOs, frz, renO, noExtO, zps, zp, two32, w64, -getElem?_pos]
  · have f' : ¬ 20 < (l.length : Int) := f
    have hz := hz32
    have hzl : (List.replicate 32 (PV.i IntKind.u8 0)).length = 32 := rfl
    have h32 := V32 0 2 l (by omega) hl
    have h32' := V32 0 2 (l ++ [e]) (by simp; omega) (fun x hx => (List.mem_append.1 hx).elim (hl x) (fun hx => by simp at hx; subst hx; exact he))
    have h34 := V34 900 7 e he
    have wl := allW_en l
    have fl := flat_en l
    have le1 : (enL l).length ≤ 4294967296 := by omega
    have le2 : (enL l).length + 1 ≤ 4294967296 := by omega
    have le3 : ¬ ((enL l).length + 1 ≤ (enL l).length) := by omega
    have t0 : List.take (enL l).length (enL l) = enL l := List.take_length
    have t1 : ∀ w : List PV, List.take ((enL l).length + 1) (enL l ++ [w]) = enL l ++ [w] := fun w => List.take_of_length_le (by simp)
    rw [show enL (l ++ [e]) = enL l ++ [enC e] by simp [enL], List.all_append, List.all_cons, List.all_nil, Bool.and_true] at h32'
    rw [← el] at f f'
    cases hm : l.all mayE
    · rw [hm] at h32 h32'
      have h36 := V36 0 3 zero32L e rfl he
      simp only [noPut, Bool.false_and, cond_false, ← hz] at h32 h32' h36
      generalize enL l = b at *
      generalize uL (linkC zero32L e) = u at *
      generalize byL (encB e) = eb at *
      clear hz t0
      obtain ⟨e1, e2, e3, e4, e5, e6, e7, e8, e9⟩ := e
      simp only [enC] at h32' h34 h36 ⊢
      simp only [row] at h32 h32' h34
      generalize mayE ⟨e1, e2, e3, e4, e5, e6, e7, e8, e9⟩ = m at *
      generalize hz' : List.replicate 32 (PV.i .u8 0) = zz at *
      cases m <;> simp only [cond_true, cond_false] at h34 <;> simp -implicitDefEqProofs (maxSteps := 1000000) (disch := first | omega | rfl) [m11, h30, h32, h32', h34, h36, f, f', wl, fl, le1, le2, le3, t1, hz', hzl, box, KY, KV, KS, getS, getO, gS, zipN, dropW, takeW, wds, stvs, sea, seaL, refs, refsL, refsEls, refsO, isPureEls, isPures, isPure, noExt, noExts, noExtEls, cellsL, ren, renL, renEls, keepO, keepS, keysO, refsS, refsOB, cntN, headC, setS, boxO, row, putW, putB, putB1, eNl, newOs, frz, renO, noExtO, zps, zp, two32, w64, -getElem?_pos]
    · rw [hm] at h32 h32'
      have hh := hdL_len l h0 h0_len
      have h36 := V36 0 3 (hdL h0 l) e hh he
      have rl := recL_len l h0
      have ql := byL_len (recL h0 l)
      have hq := recL_app l [e] h0
      have hd := hdL_app l [e] h0
      simp only [recL, hdL, List.append_nil] at hq hd
      have rl' := recL_len (l ++ [e]) h0
      have ql' := byL_len (recL h0 (l ++ [e]))
      have c1 := unB_by (recL h0 l)
      have c2 := unB_by (recL h0 (l ++ [e]))
      have c3 := unB_by (encB e)
      have c4 := unB_uL (linkH (hdL h0 l) e)
      have cs : chars (recL h0 (l ++ [e])) = chars (recL h0 l) ++ (chars (encB e) ++ chars (linkH (hdL h0 l) e)) := by rw [hq, chars_app, chars_app]
      have s1 := chars_len (recL h0 l)
      have s2 := chars_len (encB e)
      have s3 := chars_len (linkH (hdL h0 l) e)
      rw [encB_len] at s2
      rw [linkH_len] at s3
      have ble := byL_len (encB e)
      rw [encB_len] at ble
      have tke : List.take 30 (byL (encB e)) = byL (encB e) := List.take_of_length_le (by omega)
      have tkq : List.take (62 * l.length) (byL (recL h0 l)) = byL (recL h0 l) := List.take_of_length_le (by omega)
      have tkq' : List.take (62 * (l ++ [e]).length) (byL (recL h0 (l ++ [e]))) = byL (recL h0 (l ++ [e])) := List.take_of_length_le (by omega)
      have uu := eqIs_uu (linkH (hdL h0 l) e)
      have ulq := uL_len (linkH (hdL h0 l) e)
      rw [linkH_len] at ulq
      have tu := take_u (linkH (hdL h0 l) e) (linkH_len _ e)
      have tu0 : (uL (linkH (hdL h0 l) e)).take 32 = uL (linkH (hdL h0 l) e) := by rw [← List.drop_zero (l := uL (linkH (hdL h0 l) e))]; exact tu
      simp only [yesPut, noPut, Bool.true_and, cond_true, rl, rl', hd] at h32 h32'
      rw [cs] at c2
      rw [rl] at s1 ql
      rw [rl'] at ql'
      have b1 : (chars (recL h0 l)).length + (chars (encB e)).length ≤ 4294967296 := by omega
      have b2 : (chars (recL h0 l)).length + (chars (encB e)).length + (chars (linkH (hdL h0 l) e)).length ≤ 4294967296 := by omega
      have b3 : (chars (recL h0 l)).length + ((chars (encB e)).length + (chars (linkH (hdL h0 l) e)).length) ≤ 4294967296 := by omega
      simp only [linkC] at h36
      clear cs s1 s2 s3 hq hd
      generalize chars (recL h0 l) = w1 at *
      generalize chars (encB e) = w2 at *
      generalize chars (linkH (hdL h0 l) e) = w3 at *
      generalize byL (recL h0 l) = q1 at *
      generalize byL (recL h0 (l ++ [e])) = q2 at *
      generalize byL (encB e) = eb at *
      generalize 62 * l.length = n1 at *
      generalize 62 * (l ++ [e]).length = n2 at *
      generalize enL l = b at *
      generalize uL (hdL h0 l) = u at *
      obtain ⟨e1, e2, e3, e4, e5, e6, e7, e8, e9⟩ := e
      simp only [enC] at h32' h34 h36 ⊢
      simp only [row] at h32 h32' h34
      cases hme : mayE ⟨e1, e2, e3, e4, e5, e6, e7, e8, e9⟩ <;> rw [hme] at h32' h34 h36 <;> simp only [cond_true, cond_false, ← hz] at h32' h34 h36
      · clear hz
        generalize hz' : List.replicate 32 (PV.i .u8 0) = zz at *
        simp -implicitDefEqProofs (maxSteps := 1000000) (disch := first | omega | rfl) [m11, h30, h32, h32', h34, h36, f, f', wl, fl, le1, le2, le3, t0, t1, hz', hzl, ql, tkq, box, KY, KV, KS, getS, getO, gS, zipN, dropW, takeW, wds, stvs, sea, seaL, refs, refsL, refsEls, refsO, isPureEls, isPures, isPure, noExt, noExts, noExtEls, cellsL, ren, renL, renEls, keepO, keepS, keysO, refsS, refsOB, cntN, headC, setS, boxO, row, putW, putB, putB1, eNl, newOs, frz, renO, noExtO, zps, zp, two32, w64, -getElem?_pos]
      · clear hz
        generalize uL (linkH (hdL h0 l) _) = v at *
        generalize hz' : List.replicate 32 (PV.i .u8 0) = zz at *
        simp -implicitDefEqProofs (maxSteps := 1000000) (disch := first | omega | rfl) [m11, h30, h32, h32', h34, h36, f, f', wl, fl, le1, le2, le3, t0, t1, hz', hzl, ql, ql', tkq, tkq', ble, tke, c1, c2, c3, c4, b1, b2, b3, uu, ulq, tu, tu0, box, KY, KV, KS, getS, getO, gS, zipN, dropW, takeW, wds, stvs, sea, seaL, refs, refsL, refsEls, refsO, isPureEls, isPures, isPure, noExt, noExts, noExtEls, cellsL, ren, renL, renEls, keepO, keepS, keysO, refsS, refsOB, cntN, headC, setS, boxO, row, putW, putB, putB1, eNl, newOs, frz, renO, noExtO, zps, zp, two32, w64, -getElem?_pos]
theorem Pure.ChainMore (us : List PV) (h : TyAll Tryd.prog 8 [47, 57] us) : ∃ N d out, sem tab N d 11 us [] = some (.b true, out) := by
  simp only [TyAll] at h
  obtain ⟨v0, _, rfl, h0, v1, _, rfl, h1, rfl⟩ := h
  obtain ⟨l, hl, rfl⟩ := entries_of h0
  obtain ⟨e, he, rfl⟩ := entry_of h1
  obtain ⟨out, h⟩ := more_law l e hl he
  exact ⟨_, _, out, h⟩
end Go.Proofs.YtcimkkcajkmfoaaDoor
