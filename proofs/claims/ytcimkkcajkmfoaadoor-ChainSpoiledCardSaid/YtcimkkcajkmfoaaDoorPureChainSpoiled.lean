/- Records of which one has another entry are not verified: the plain law. -/
import Derived.Test.YtcimkkcajkmfoaaDoorPgC
set_option linter.all false
set_option linter.unusedSimpArgs false
set_option linter.unusedVariables false
namespace Go.Proofs.YtcimkkcajkmfoaaDoor
open Go
theorem enL_take' (l : List En) (n : Nat) : (enL l).take n = enL (l.take n) := by simp [enL, List.map_take]
theorem wr64 {x : Int} (h : -9223372036854775808 ≤ x) (h' : x ≤ 9223372036854775807) : IntKind.i64.wrap x = x := w64 h h'
set_option maxHeartbeats 32000000 in
theorem spoiled_law (l : List En) (i : Int) (e : En) (hl : ∀ e ∈ l, okE e) (he : okE e) : ∃ out, sem tab 1000 12 10 [.l false (enL l), .i .i64 i, .agg (enC e)] [] = some (.b true, out) := by
  rw [sem_succ tab 1000 11 10 m10 rfl]
  have h30 := awakeC 0 0
  have el := enL_len l
  by_cases f : (l.length : Int) > 20
  · have f' : 20 < (l.length : Int) := f
    rw [← el] at f f'
    generalize enL l = b at *
    obtain ⟨e1, e2, e3, e4, e5, e6, e7, e8, e9⟩ := e
    simp only [enC]
    simp -implicitDefEqProofs (maxSteps := 1000000) (disch := first | omega | rfl) [m10, h30, f, f', KS, getS, getO, gS, zipN, dropW, takeW, wds, stvs, sea, seaL, refs, refsL, refsEls, refsO, isPureEls, isPures, isPure, noExt, noExts, noExtEls, cellsL, ren, renL, renEls, keepO, keepS, keysO, refsS, refsOB, cntN, headC, setS, boxO, row, putW, putB, putB1, eNl, newOs, frz, renO, noExtO, zps, zp, two32, w64, -getElem?_pos]
  have f' : ¬ 20 < (l.length : Int) := f
  by_cases i0 : i < 0
  · rw [← el] at f f'
    generalize enL l = b at *
    obtain ⟨e1, e2, e3, e4, e5, e6, e7, e8, e9⟩ := e
    simp only [enC]
    simp -implicitDefEqProofs (maxSteps := 1000000) (disch := first | omega | rfl) [m10, h30, f, f', i0, KS, getS, getO, gS, zipN, dropW, takeW, wds, stvs, sea, seaL, refs, refsL, refsEls, refsO, isPureEls, isPures, isPure, noExt, noExts, noExtEls, cellsL, ren, renL, renEls, keepO, keepS, keysO, refsS, refsOB, cntN, headC, setS, boxO, row, putW, putB, putB1, eNl, newOs, frz, renO, noExtO, zps, zp, two32, w64, -getElem?_pos]
  by_cases ig : i ≥ (l.length : Int)
  · have ig' : (l.length : Int) ≤ i := ig
    rw [← el] at f f' ig ig'
    generalize enL l = b at *
    obtain ⟨e1, e2, e3, e4, e5, e6, e7, e8, e9⟩ := e
    simp only [enC]
    simp -implicitDefEqProofs (maxSteps := 1000000) (disch := first | omega | rfl) [m10, h30, f, f', i0, ig, ig', KS, getS, getO, gS, zipN, dropW, takeW, wds, stvs, sea, seaL, refs, refsL, refsEls, refsO, isPureEls, isPures, isPure, noExt, noExts, noExtEls, cellsL, ren, renL, renEls, keepO, keepS, keysO, refsS, refsOB, cntN, headC, setS, boxO, row, putW, putB, putB1, eNl, newOs, frz, renO, noExtO, zps, zp, two32, w64, -getElem?_pos]
  obtain ⟨I, rfl⟩ := Int.eq_ofNat_of_zero_le (show 0 ≤ i by omega)
  have hI : I < l.length := by omega
  have ig' : ¬ (l.length : Int) ≤ (I : Int) := ig
  have i1 : (0 : Int) ≤ (I : Int) := by omega
  have i2 : (I : Int) < (l.length : Int) := by omega
  have i3 : (I : Int) ≤ (l.length : Int) := by omega
  have hx : (enL l)[I]? = some (enC l[I]) := enL_get l I hI
  have hk := k_est false l[I] e
  have hli := hl l[I] (List.getElem_mem hI)
  have wl := allW_en l
  cases hs : eqE l[I] e
  case true =>
    rw [hs] at hk
    rw [← el] at f f' ig ig' i2
    generalize l[I] = e' at *
    generalize enL l = b at *
    obtain ⟨e1, e2, e3, e4, e5, e6, e7, e8, e9⟩ := e
    obtain ⟨f1, f2, f3, f4, f5, f6, f7, f8, f9⟩ := e'
    simp only [enC] at hx hk ⊢
    simp -implicitDefEqProofs (maxSteps := 1000000) (disch := first | omega | rfl) [m10, h30, f, f', i0, ig, ig', i1, i2, hx, hk, box, KS, getS, getO, gS, zipN, dropW, takeW, wds, stvs, sea, seaL, refs, refsL, refsEls, refsO, isPureEls, isPures, isPure, noExt, noExts, noExtEls, cellsL, ren, renL, renEls, keepO, keepS, keysO, refsS, refsOB, cntN, headC, setS, boxO, row, putW, putB, putB1, eNl, newOs, frz, renO, noExtO, zps, zp, two32, w64, -getElem?_pos]
  case false =>
    rw [hs] at hk
    have hne : l[I] ≠ e := fun h => by rw [(eqE_iff _ _).2 h] at hs; cases hs
    have hz := hz32
    have hzl : (List.replicate 32 (PV.i IntKind.u8 0)).length = 32 := rfl
    have tl : (l.take I).length = I := by rw [List.length_take]; omega
    have h32 := V32 0 2 l (by omega) hl
    have h32' := V32 0 2 (l.take I) (by omega) (fun x hx => hl x (List.mem_of_mem_take hx))
    have h34 := V34 900 7 e he
    have h34' := V34 900 7 l[I] hli
    have et := enL_take' l I
    rw [← et] at h32'
    have rl := recL_len l h0
    have ql := byL_len (recL h0 l)
    rw [rl] at ql
    have tkq : List.take (62 * l.length) (byL (recL h0 l)) = byL (recL h0 l) := List.take_of_length_le (by omega)
    have wn : IntKind.i64.wrap (62 * (l.length : Int)) = ((62 * l.length : Nat) : Int) := by rw [w64 (by omega) (by omega)]; omega
    have ble := byL_len (encB e)
    have ble' := byL_len (encB l[I])
    rw [encB_len] at ble ble'
    have tke : List.take 30 (byL (encB e)) = byL (encB e) := List.take_of_length_le (by omega)
    have tke' : List.take 30 (byL (encB l[I])) = byL (encB l[I]) := List.take_of_length_le (by omega)
    cases hm : l.all mayE
    · rw [hm] at h32
      simp only [noPut, yesPut, row, cond_false, ← hz] at h32 h32'
      simp only [row] at h34 h34'
      clear hz
      rw [← el] at f f' ig ig' i2 i3
      generalize (l.take I).all mayE = m1 at *
      have rl' := recL_len (l.take I) h0
      have ql' := byL_len (recL h0 (l.take I))
      rw [rl'] at ql' h32'
      generalize 62 * (l.take I).length = t2 at *
      have tkq' : List.take t2 (byL (recL h0 (l.take I))) = byL (recL h0 (l.take I)) := List.take_of_length_le (by omega)
      generalize byL (recL h0 (l.take I)) = q' at *
      generalize byL (encB e) = eb at *
      generalize byL (encB l[I]) = eb' at *
      generalize uL (hdL h0 (l.take I)) = u' at *
      generalize mayE l[I] = m2 at *
      generalize l[I] = e' at *
      generalize enL l = b at *
      obtain ⟨e1, e2, e3, e4, e5, e6, e7, e8, e9⟩ := e
      obtain ⟨f1, f2, f3, f4, f5, f6, f7, f8, f9⟩ := e'
      simp only [enC] at hx hk h34 h34' ⊢
      generalize mayE ⟨e1, e2, e3, e4, e5, e6, e7, e8, e9⟩ = m at *
      generalize hz' : List.replicate 32 (PV.i .u8 0) = zz at *
      cases m <;> cases m1 <;> cases m2 <;> simp only [cond_true, cond_false] at h32' h34 h34' <;> simp -implicitDefEqProofs (maxSteps := 1000000) (disch := first | omega | rfl) [m10, h30, h32, h32', h34, h34', f, f', i0, ig, ig', i1, i2, i3, hx, hk, wl, ble, ble', tke, tke', ql', tkq', hz', hzl, box, KY, KV, KS, getS, getO, gS, zipN, dropW, takeW, wds, stvs, sea, seaL, refs, refsL, refsEls, refsO, isPureEls, isPures, isPure, noExt, noExts, noExtEls, cellsL, ren, renL, renEls, keepO, keepS, keysO, refsS, refsOB, cntN, headC, setS, boxO, row, putW, putB, putB1, eNl, newOs, frz, renO, noExtO, zps, zp, two32, w64, -getElem?_pos]
    have hmt : (l.take I).all mayE = true := by
      rw [List.all_eq_true] at hm ⊢
      exact fun x hx => hm x (List.mem_of_mem_take hx)
    have hmi : mayE l[I] = true := (List.all_eq_true.1 hm) l[I] (List.getElem_mem hI)
    rw [hm] at h32
    rw [hmt] at h32'
    rw [hmi] at h34'
    have rl' := recL_len (l.take I) h0
    have ql' := byL_len (recL h0 (l.take I))
    rw [tl] at rl'
    rw [rl'] at ql'
    have tkq' : List.take (62 * I) (byL (recL h0 (l.take I))) = byL (recL h0 (l.take I)) := List.take_of_length_le (by omega)
    simp only [noPut, yesPut, row, cond_true, rl, rl'] at h32 h32' h34'
    cases hme : mayE e
    · rw [hme] at h34
      simp only [row, cond_false] at h34
      rw [← el] at f f' ig ig' i2 i3 wn ql h32 tkq
      generalize byL (recL h0 (l.take I)) = q' at *
      generalize byL (recL h0 l) = q at *
      generalize byL (encB l[I]) = eb' at *
      generalize uL (hdL h0 (l.take I)) = u' at *
      generalize uL (hdL h0 l) = u at *
      generalize 62 * I = j at *
      generalize l[I] = e' at *
      generalize enL l = b at *
      generalize 62 * b.length = t at *
      obtain ⟨e1, e2, e3, e4, e5, e6, e7, e8, e9⟩ := e
      obtain ⟨f1, f2, f3, f4, f5, f6, f7, f8, f9⟩ := e'
      simp only [enC] at hx hk h34 h34' ⊢
      clear hz
      generalize hz' : List.replicate 32 (PV.i .u8 0) = zz at *
      simp -implicitDefEqProofs (maxSteps := 1000000) (disch := first | omega | rfl) [m10, h30, h32, h32', h34, h34', f, f', i0, ig, ig', i1, i2, i3, hx, hk, wl, wn, ble', tke', ql, tkq, ql', tkq', hz', hzl, box, KY, KV, KS, getS, getO, gS, zipN, dropW, takeW, wds, stvs, sea, seaL, refs, refsL, refsEls, refsO, isPureEls, isPures, isPure, noExt, noExts, noExtEls, cellsL, ren, renL, renEls, keepO, keepS, keysO, refsS, refsOB, cntN, headC, setS, boxO, row, putW, putB, putB1, eNl, newOs, frz, renO, noExtO, zps, zp, two32, w64, -getElem?_pos]
    · rw [hme] at h34
      simp only [row, cond_true] at h34
      have hh := hdL_len (l.take I) h0 h0_len
      have hR := hdL_R (l.take I) h0 h0_R
      have h33 := V33 0 1 (spoilX l I e) (by rw [spoil_len l I hI e]; omega) (spoil_R l I e)
      have xl := spoil_len l I hI e
      have bx' : byL (spoilX l I e) = (byL (recL h0 l)).take (62 * I) ++ (byL (encB e) ++ (byL (recL h0 l)).drop (62 * I + 30)) := by
        rw [spoilX, byL_app', byL_app', byL_take, byL_drop]
      have bxl := byL_len (spoilX l I e)
      rw [xl] at bxl
      have tkx : List.take (62 * l.length) (byL (spoilX l I e)) = byL (spoilX l I e) := List.take_of_length_le (by omega)
      rw [bx'] at h33 bxl tkx
      have h35 := L26' 0 4 ([1] ++ hdL h0 (l.take I) ++ encB e) (by simp [hh, encB_len])
      have h35' := L26' 0 4 ([1] ++ hdL h0 (l.take I) ++ encB l[I]) (by simp [hh, encB_len])
      rw [← linkH] at h35 h35'
      have cb := unB_by ([1] ++ hdL h0 (l.take I) ++ encB e)
      have cb' := unB_by ([1] ++ hdL h0 (l.take I) ++ encB l[I])
      have hb1 : ∀ z : En, byL ([1] ++ hdL h0 (l.take I) ++ encB z) = [PV.i .u8 1] :: ((uL (hdL h0 (l.take I))).map (fun v => [v]) ++ byL (encB z)) := fun z => by
        rw [byL_app', byL_app', map_u]; rfl
      rw [hb1] at h35 h35' cb cb'
      have mul : ((uL (hdL h0 (l.take I))).map (fun v => [v])).length = 32 := by rw [List.length_map, uL_len, hh]
      have muw : allW 1 ((uL (hdL h0 (l.take I))).map (fun v => [v])) = true := by rw [map_u]; exact allW_by _
      have muf : flatEls ((uL (hdL h0 (l.take I))).map (fun v => [v])) = true := by rw [map_u]; exact flat_by _
      have mt : List.take 32 ((uL (hdL h0 (l.take I))).map (fun v => [v])) = (uL (hdL h0 (l.take I))).map (fun v => [v]) := List.take_of_length_le (by omega)
      have mt2 : List.take 62 ((uL (hdL h0 (l.take I))).map (fun v => [v]) ++ byL (encB e)) = (uL (hdL h0 (l.take I))).map (fun v => [v]) ++ byL (encB e) := List.take_of_length_le (by rw [List.length_append]; omega)
      have mt3 : List.take 62 ((uL (hdL h0 (l.take I))).map (fun v => [v]) ++ byL (encB l[I])) = (uL (hdL h0 (l.take I))).map (fun v => [v]) ++ byL (encB l[I]) := List.take_of_length_le (by rw [List.length_append]; omega)
      have wq := allW_by (recL h0 l)
      have we := allW_by (encB e)
      have we' := allW_by (encB l[I])
      have fq := flat_by (recL h0 l)
      have fe := flat_by (encB e)
      have fe' := flat_by (encB l[I])
      have ul := uL_len (hdL h0 (l.take I))
      rw [hh] at ul
      have tu := take_u (hdL h0 (l.take I)) hh
      have tu0 : (uL (hdL h0 (l.take I))).take 32 = uL (hdL h0 (l.take I)) := by rw [← List.drop_zero (l := uL (hdL h0 (l.take I)))]; exact tu
      have d1 : (chars ([1] ++ hdL h0 (l.take I) ++ encB e) = chars ([1] ++ hdL h0 (l.take I) ++ encB l[I])) = False := by
        rw [eq_iff_iff, iff_false]
        intro hc
        have := chars_injV _ _ (byR_app (byR_app (fun x hx => by simp at hx; omega) hR) (encB_R e)) (byR_app (byR_app (fun x hx => by simp at hx; omega) hR) (encB_R l[I])) hc
        exact hne (enc_inj _ _ hli he hmi hme (List.append_cancel_left this).symm)
      have key : (linkH (hdL h0 (l.take I)) e = linkH (hdL h0 (l.take I)) l[I]) ∨ vfB (spoilX l I e) = (zero32L, 7) := by
        by_cases hc : chars (linkH (hdL h0 (l.take I)) e) = chars (linkH (hdL h0 (l.take I)) l[I])
        · exact .inl (chars_injV _ _ (linkH_R e hR) (linkH_R _ hR) hc)
        · exact .inr (spoil_vf l I hI e (by omega) hm hl hme he hc)
      have w1 : IntKind.i64.wrap (62 * (I : Int)) = ((62 * I : Nat) : Int) := by rw [w64 (by omega) (by omega)]; omega
      have w2 : IntKind.i64.wrap (((62 * I : Nat) : Int) + 30) = ((62 * I : Nat) : Int) + 30 := w64 (by omega) (by omega)
      have n1 : (((62 * I : Nat) : Int) + 30).toNat = 62 * I + 30 := by omega
      have n2 : ((62 * I : Nat) : Int) ≤ ((62 * I : Nat) : Int) + 30 := by omega
      have n3 : ((62 * I : Nat) : Int) + 30 ≤ ((62 * l.length : Nat) : Int) := by omega
      have n4 : 62 * I + 30 ≤ 62 * l.length := by omega
      have n5 : (0 : Int) ≤ ((62 * I : Nat) : Int) := by omega
      have n6 : 62 * l.length ≤ 4294967296 := by omega
      have n7 : 62 * I + 30 - 62 * I = 30 := by omega
      clear bx' xl hb1
      simp only [outV] at h33
      rw [← el] at f f' ig ig' i2 i3 wn ql h32 tkq bxl tkx n3 n4 n6
      generalize chars ([1] ++ hdL h0 (l.take I) ++ encB e) = s1 at *
      generalize chars ([1] ++ hdL h0 (l.take I) ++ encB l[I]) = s2 at *
      generalize byL (recL h0 (l.take I)) = q' at *
      generalize byL (recL h0 l) = q at *
      generalize byL (encB e) = eb at *
      generalize byL (encB l[I]) = eb' at *
      generalize linkH (hdL h0 (l.take I)) e = k1 at *
      generalize linkH (hdL h0 (l.take I)) l[I] = k2 at *
      generalize uL (hdL h0 (l.take I)) = u' at *
      generalize uL (hdL h0 l) = u at *
      generalize 62 * I = j at *
      generalize vfB (spoilX l I e) = vf at *
      generalize l[I] = e' at *
      generalize enL l = b at *
      generalize 62 * b.length = t at *
      obtain ⟨e1, e2, e3, e4, e5, e6, e7, e8, e9⟩ := e
      obtain ⟨f1, f2, f3, f4, f5, f6, f7, f8, f9⟩ := e'
      simp only [enC] at hx hk h34 h34' ⊢
      clear hz
      generalize hz' : List.replicate 32 (PV.i .u8 0) = zz at *
      obtain ⟨vh, vb⟩ := vf
      simp only at h33
      rcases key with rfl | h7
      · have uu := eqIs_uu k1
        generalize uL k1 = uk at *
        generalize uL vh = uv at *
        by_cases c7 : vb = 7
        · subst c7
          simp -implicitDefEqProofs (maxSteps := 1000000) (disch := first | omega | rfl) [m10, h30, h32, h32', h33, h34, h34', h35, h35', f, f', i0, ig, ig', i1, i2, i3, hx, hk, wl, wn, ble, ble', tke, tke', ql, tkq, ql', tkq', cb, cb', mul, muw, muf, mt, mt2, mt3, wq, we, we', fq, fe, fe', ul, tu, tu0, d1, w1, w2, n1, n2, n3, n4, n5, n6, n7, bxl, tkx, hz', hzl, k_cpy, k_cpC, k_cpX, k_cpyO, k_cont_bs, box, KY, KV, KS, getS, getO, gS, zipN, dropW, takeW, wds, stvs, sea, seaL, refs, refsL, refsEls, refsO, isPureEls, isPures, isPure, noExt, noExts, noExtEls, cellsL, ren, renL, renEls, keepO, keepS, keysO, refsS, refsOB, cntN, headC, setS, boxO, row, putW, putB, putB1, eNl, newOs, frz, renO, noExtO, zps, zp, two32, w64, -getElem?_pos]
        · have c7' : (vb == 7) = false := by simpa using c7
          simp -implicitDefEqProofs (maxSteps := 1000000) (disch := first | omega | rfl) [c7', uu, m10, h30, h32, h32', h33, h34, h34', h35, h35', f, f', i0, ig, ig', i1, i2, i3, hx, hk, wl, wn, ble, ble', tke, tke', ql, tkq, ql', tkq', cb, cb', mul, muw, muf, mt, mt2, mt3, wq, we, we', fq, fe, fe', ul, tu, tu0, d1, w1, w2, n1, n2, n3, n4, n5, n6, n7, bxl, tkx, hz', hzl, k_cpy, k_cpC, k_cpX, k_cpyO, k_cont_bs, box, KY, KV, KS, getS, getO, gS, zipN, dropW, takeW, wds, stvs, sea, seaL, refs, refsL, refsEls, refsO, isPureEls, isPures, isPure, noExt, noExts, noExtEls, cellsL, ren, renL, renEls, keepO, keepS, keysO, refsS, refsOB, cntN, headC, setS, boxO, row, putW, putB, putB1, eNl, newOs, frz, renO, noExtO, zps, zp, two32, w64, -getElem?_pos]
      · injection h7 with _ h7
        subst h7
        generalize uL k1 = uk at *
        generalize uL k2 = uk' at *
        generalize uL vh = uv at *
        simp -implicitDefEqProofs (maxSteps := 1000000) (disch := first | omega | rfl) [m10, h30, h32, h32', h33, h34, h34', h35, h35', f, f', i0, ig, ig', i1, i2, i3, hx, hk, wl, wn, ble, ble', tke, tke', ql, tkq, ql', tkq', cb, cb', mul, muw, muf, mt, mt2, mt3, wq, we, we', fq, fe, fe', ul, tu, tu0, d1, w1, w2, n1, n2, n3, n4, n5, n6, n7, bxl, tkx, hz', hzl, k_cpy, k_cpC, k_cpX, k_cpyO, k_cont_bs, box, KY, KV, KS, getS, getO, gS, zipN, dropW, takeW, wds, stvs, sea, seaL, refs, refsL, refsEls, refsO, isPureEls, isPures, isPure, noExt, noExts, noExtEls, cellsL, ren, renL, renEls, keepO, keepS, keysO, refsS, refsOB, cntN, headC, setS, boxO, row, putW, putB, putB1, eNl, newOs, frz, renO, noExtO, zps, zp, two32, w64, -getElem?_pos]
theorem Pure.ChainSpoiled (us : List PV) (h : TyAll Tryd.prog 8 [47, 3, 57] us) : ∃ N d out, sem tab N d 10 us [] = some (.b true, out) := by
  simp only [TyAll] at h
  obtain ⟨v0, _, rfl, h0, v1, _, rfl, h1, v2, _, rfl, h2, rfl⟩ := h
  obtain ⟨l, hl, rfl⟩ := entries_of h0
  obtain ⟨i, _, _, rfl⟩ := int_of h1
  obtain ⟨e, he, rfl⟩ := entry_of h2
  obtain ⟨out, h⟩ := spoiled_law l i e hl he
  exact ⟨_, _, out, h⟩
end Go.Proofs.YtcimkkcajkmfoaaDoor
