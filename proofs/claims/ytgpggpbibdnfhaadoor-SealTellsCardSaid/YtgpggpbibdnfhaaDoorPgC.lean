/- Plain lemmas, part 3. -/
import Derived.Test.YtgpggpbibdnfhaaDoorPgB
set_option linter.all false
set_option linter.unusedSimpArgs false
set_option linter.unusedVariables false
namespace Go.Proofs.YtgpggpbibdnfhaaDoor
open Go
section
attribute [local congr] bnd_cg bndO_cg br_cg
theorem front_eq (f : Fra) (h : inB f.kind 0 6 = true) : frontF f = 0 :: (szF f.kind : Int) :: f.kind :: catB (numsF f) := by
  unfold frontF allF
  simp only [catB]
  have h1 : be 1 f.kind = [f.kind] := by
    rcases kinds h with e | e | e | e | e | e | e <;> rw [e] <;> rfl
  have h2 : be 2 (szF f.kind : Int) = [0, (szF f.kind : Int)] := by
    rcases kinds h with e | e | e | e | e | e | e <;> rw [e] <;> rfl
  rw [h1, h2]
  rfl
theorem sz_eq (f : Fra) (h : inB f.kind 0 6 = true) : szF f.kind = 1 + (catB (numsF f)).length + cond (tagdF f.kind) 32 0 := by
  have e := front_eq f h
  have l := frontF_len f
  rw [e] at l
  simp only [List.length_cons] at l
  rcases kinds h with e | e | e | e | e | e | e <;> rw [e] at l ⊢ <;> simp [aheadF, szF, tagdF, inB] at l ⊢ <;> omega
set_option maxHeartbeats 8000000 in
theorem R45 (N d : Nat) (f : Fra) (h : PlF f) (o : okF f) : sem tab (N + 100) (d + 4) 45 [.agg (frC f)] [] = some (.tup [.sl 0 0 0 (aheadF f.kind), .b (tagdF f.kind)], [row (byL (frontF f)) 1 true]) := by
  rw [sem_succ tab (N + 100) (d + 3) 45 m45 rfl]
  have h53 : sem tab (N + 100) (d + 3) 53 [.agg (frC f)] [] = _ := R53 (N + 100) (d + 2) f (pl_bd h)
  have hf := fitAll_allF f h o
  have ho := okNu_allF f h o
  have hf : fitAll (numsF f) = true := by
    unfold allF at hf
    simp only [fitAll, Bool.and_eq_true] at hf
    exact hf.2.2
  have h90 := U90c N d (numsF f) (by have := numsF_len f; omega) (fun x hx => ho x (by unfold allF; simp [hx]))
  rw [hf, cond_true] at h90
  have nl := nuL_len (numsF f)
  have nt : List.take (numsF f).length (nuL (numsF f)) = nuL (numsF f) := List.take_of_length_le (by omega)
  have sz := sz_eq f h.kind
  have ha := aheadF_le f.kind
  have fe := front_eq f h.kind
  have fl := frontF_len f
  have kr := kinds h.kind
  have hs := szF_le f.kind
  have bl := byL_len (catB (numsF f))
  have wt := allW_by (catB (numsF f))
  have ft := flat_by (catB (numsF f))
  have bt : List.take (catB (numsF f)).length (byL (catB (numsF f))) = byL (catB (numsF f)) := List.take_of_length_le (by omega)
  have ne : 1 ≤ (catB (numsF f)).length := by rw [fe] at fl; simp only [List.length_cons] at fl; omega
  have ls : (catB (numsF f)).length + 3 = aheadF f.kind := by rw [fe] at fl; simp only [List.length_cons] at fl; omega
  have w3 : IntKind.u8.wrap f.kind = f.kind := by rw [IntKind.wrap_u8]; omega
  have w4 : ∀ n : Int, 0 ≤ n ∧ n ≤ 255 → IntKind.u8.wrap n = n := fun n hn => by rw [IntKind.wrap_u8]; omega
  rw [fe]
  rw [show byL (0 :: (szF f.kind : Int) :: f.kind :: catB (numsF f)) = [.i .u8 0] :: [.i .u8 (szF f.kind : Int)] :: [.i .u8 f.kind] :: byL (catB (numsF f)) from rfl]
  rw [sz, ← ls]
  have w5 := w4 (1 + ((catB (numsF f)).length : Int)) (by omega)
  have w6 := w4 (1 + ((catB (numsF f)).length : Int) + 32) (by omega)
  have t2 : ∀ a b c : List PV, List.take ((catB (numsF f)).length + 3) (a :: b :: c :: byL (catB (numsF f))) = a :: b :: c :: byL (catB (numsF f)) := fun a b c => List.take_of_length_le (by simp [bl])
  clear sz fe fl hs w4
  generalize byL (catB (numsF f)) = y at *
  generalize (catB (numsF f)).length = m at *
  generalize nuL (numsF f) = s at *
  generalize (numsF f).length = n at *
  clear hf ho o h
  generalize tagdF f.kind = t at *
  obtain ⟨a1, a2, a3, a4, a5, a6, a7, a8, a9⟩ := f
  simp only [frC, row] at *
  generalize uL a9 = q at *
  have g1 : ¬ (3 + m ≤ 3) := by omega
  have g2 : 3 + m ≤ 4294967296 := by omega
  have g3 : m ≤ 22 := by omega
  have g4 : m ≠ 0 := by omega
  have g5 : m ≤ 4294967293 := by omega
  cases t <;>
  simp -implicitDefEqProofs (maxSteps := 1000000) (disch := first | omega | rfl) [m45, h53, h90, nl, nt, bl, bt, wt, ft, w3, w5, w6, t2, g1, g2, g3, g4, g5, Nat.add_comm 3 m, boxO, KVl, KF, KS, getS, getO, gS, zipN, dropW, takeW, wds, stvs, sea, seaL, refs, refsL, refsEls, refsO, isPureEls, isPures, isPure, noExt, noExts, noExtEls, cellsL, ren, renL, renEls, keepO, keepS, keysO, refsS, refsOB, headC, setS, boxO, row, putW, putB, putB1, eNl, newOs, frz, renO, noExtO, zps, zp, two32, w64, -getElem?_pos, k_cnt, k_cnt0]
set_option maxHeartbeats 8000000 in
/-- The bytes that its tag is of. -/
theorem R29 (N d : Nat) (f : Fra) (o : okF f) : sem tab (N + 100) (d + 5) 29 [.agg (frC f)] [] = cond (plainF f && tagdF f.kind) (some (.sl 0 0 0 (aheadF f.kind), [row (byL (frontF f)) 1 true])) (some (.sl 0 0 0 0, [row [] 1 true])) := by
  rw [sem_succ tab (N + 100) (d + 4) 29 m29 rfl]
  have h19 : sem tab (N + 100) (d + 4) 44 [.agg (frC f)] [] = _ := R44 N (d + 2) f o
  cases hp : plainF f
  · rw [hp] at h19
    obtain ⟨a1, a2, a3, a4, a5, a6, a7, a8, a9⟩ := f
    simp only [frC, cond_false, Bool.false_and, row] at h19 ⊢
    generalize uL a9 = q at *
    simp -implicitDefEqProofs (maxSteps := 1000000) (disch := first | omega | rfl) [m29, h19, boxO, KF, KS, getS, getO, gS, zipN, dropW, takeW, wds, stvs, sea, seaL, refs, refsL, refsEls, refsO, isPureEls, isPures, isPure, noExt, noExts, noExtEls, cellsL, ren, renL, renEls, keepO, keepS, keysO, refsS, refsOB, headC, setS, boxO, row, putW, putB, putB1, eNl, newOs, frz, renO, noExtO, zps, zp, two32, w64, -getElem?_pos, k_cnt, k_cnt0]
  · rw [hp] at h19
    have h20 := R45 N d f ((plainF_iff f).1 hp) o
    have hl := byL_len (frontF f)
    rw [frontF_len] at hl
    have t1 : List.take (aheadF f.kind) (byL (frontF f)) = byL (frontF f) := List.take_of_length_le (by omega)
    generalize byL (frontF f) = b at *
    generalize aheadF f.kind = n at *
    generalize tagdF f.kind = t at *
    obtain ⟨a1, a2, a3, a4, a5, a6, a7, a8, a9⟩ := f
    simp only [frC, row, Bool.true_and] at *
    generalize uL a9 = q at *
    cases t <;>
    simp -implicitDefEqProofs (maxSteps := 1000000) (disch := first | omega | rfl) [m29, h19, h20, hl, t1, boxO, KF, KS, getS, getO, gS, zipN, dropW, takeW, wds, stvs, sea, seaL, refs, refsL, refsEls, refsO, isPureEls, isPures, isPure, noExt, noExts, noExtEls, cellsL, ren, renL, renEls, keepO, keepS, keysO, refsS, refsOB, headC, setS, boxO, row, putW, putB, putB1, eNl, newOs, frz, renO, noExtO, zps, zp, two32, w64, -getElem?_pos, k_cnt, k_cnt0]
theorem R10X (M d : Nat) (f : Fra) (o : okF f) : sem tab (M + 1000) (d + 9) 29 [.agg (frC f)] [] = cond (canX f) (some (.sl 0 0 0 (aheadF f.kind), [row (byL (frontF f)) 1 true])) (some (.sl 0 0 0 0, [row [] 1 true])) := R29 (M + 900) (d + 4) f o
set_option maxHeartbeats 8000000 in
theorem R14s (M d : Nat) (key : List Int) (f : Fra) (hk : key.length = 32) (hr : ∀ x ∈ key, 0 ≤ x ∧ x ≤ 255) (o : okF f) : sem tab (M + 1000) (d + 10) 14 [.agg [.blob 32 (uL key)], .agg (frC f)] [] = outT key f := by
  rw [sem_succ tab (M + 1000) (d + 9) 14 m14 rfl]
  have h17 := R10X M d f o
  have ha := aheadF_le f.kind
  have fl := byL_len (frontF f)
  rw [frontF_len] at fl
  have h30 : sem tab (M + 1000) (d + 9) 30 [.l false (byL key), .l false (byL (frontF f))] [] = _ := L36 M (d + 1) key (frontF f) (by omega) (by rw [frontF_len]; omega) hr (catB_range (allF f))
  have tf : List.take (aheadF f.kind) (byL (frontF f)) = byL (frontF f) := List.take_of_length_le (by omega)
  have kl := uL_len key
  rw [hk] at kl
  have tk := take_k key hk
  have mk := map_uf key
  have zl : ((aheadF f.kind : Int) == 0) = false := by rw [beq_eq_false_iff_ne]; omega
  have hu' := uz32.symm
  have zl2 : (uL z32).length = 32 := by rw [uL_len]; rfl
  have xl : (uL (tagI key (frontF f))).length = 32 := by rw [uL_len, tagI_len]
  unfold outT tX
  cases c : canX f <;> rw [c] at h17 <;> simp only [cond_true, cond_false] at h17 ⊢
  · clear h30 tf fl
    obtain ⟨a1, a2, a3, a4, a5, a6, a7, a8, a9⟩ := f
    simp only [frC, row] at *
    generalize uL a9 = q at *
    generalize uL key = u at *
    generalize uL z32 = z at *
    simp -implicitDefEqProofs (maxSteps := 1000000) (disch := first | omega | rfl) [m14, h17, kl, zl2, hu', -List.reduceReplicate, boxO, KVl, KF, KS, getS, getO, gS, zipN, dropW, takeW, wds, stvs, sea, seaL, refs, refsL, refsEls, refsO, isPureEls, isPures, isPure, noExt, noExts, noExtEls, cellsL, ren, renL, renEls, keepO, keepS, keysO, refsS, refsOB, headC, setS, boxO, row, putW, putB, putB1, eNl, newOs, frz, renO, noExtO, zps, zp, two32, w64, -getElem?_pos, k_cnt, k_cnt0]
  · generalize uL (tagI key (frontF f)) = X at *
    generalize byL (frontF f) = y at *
    generalize aheadF f.kind = n at *
    generalize byL key = bk at *
    obtain ⟨a1, a2, a3, a4, a5, a6, a7, a8, a9⟩ := f
    simp only [frC, row] at *
    generalize uL a9 = q at *
    generalize uL key = u at *
    generalize uL z32 = z at *
    simp -implicitDefEqProofs (maxSteps := 1000000) (disch := first | omega | rfl) [m14, h17, h30, kl, tk, mk, fl, tf, zl, zl2, xl, hu', -List.reduceReplicate, boxO, KVl, KF, KS, getS, getO, gS, zipN, dropW, takeW, wds, stvs, sea, seaL, refs, refsL, refsEls, refsO, isPureEls, isPures, isPure, noExt, noExts, noExtEls, cellsL, ren, renL, renEls, keepO, keepS, keysO, refsS, refsOB, headC, setS, boxO, row, putW, putB, putB1, eNl, newOs, frz, renO, noExtO, zps, zp, two32, w64, -getElem?_pos, k_cnt, k_cnt0]
set_option maxHeartbeats 8000000 in
theorem R15s (M d : Nat) (key : List Int) (f : Fra) (hk : key.length = 32) (hr : ∀ x ∈ key, 0 ≤ x ∧ x ≤ 255) (o : okF f) : sem tab (M + 1000) (d + 11) 15 [.agg [.blob 32 (uL key)], .agg (frC f)] [] = outSl key f := by
  rw [sem_succ tab (M + 1000) (d + 10) 15 m15 rfl]
  have h27 := R14s M d key f hk hr o
  have kl := uL_len key
  rw [hk] at kl
  have fl : (uL f.tag).length = 32 := by rw [uL_len, o.tag]
  have hu' := uz32.symm
  have zl2 : (uL z32).length = 32 := by rw [uL_len]; rfl
  have xl : (uL (tX key f)).length = 32 := by rw [uL_len, tX_len]
  unfold outT at h27
  unfold outSl
  cases c : canX f <;> rw [c] at h27 <;> simp only [cond_true, cond_false] at h27 ⊢
  · obtain ⟨a1, a2, a3, a4, a5, a6, a7, a8, a9⟩ := f
    simp only [frC, zeF, row] at *
    generalize uL a9 = q at *
    generalize uL key = u at *
    generalize uL z32 = z at *
    simp -implicitDefEqProofs (maxSteps := 1000000) (disch := first | omega | rfl) [m15, h27, kl, fl, zl2, hu', -List.reduceReplicate, boxO, KVl, KF, KS, getS, getO, gS, zipN, dropW, takeW, wds, stvs, sea, seaL, refs, refsL, refsEls, refsO, isPureEls, isPures, isPure, noExt, noExts, noExtEls, cellsL, ren, renL, renEls, keepO, keepS, keysO, refsS, refsOB, headC, setS, boxO, row, putW, putB, putB1, eNl, newOs, frz, renO, noExtO, zps, zp, two32, w64, -getElem?_pos, k_cnt, k_cnt0]
  · generalize tX key f = X at *
    obtain ⟨a1, a2, a3, a4, a5, a6, a7, a8, a9⟩ := f
    simp only [frC, zeF, row] at *
    generalize uL a9 = q at *
    generalize uL X = x at *
    generalize uL key = u at *
    generalize uL z32 = z at *
    simp -implicitDefEqProofs (maxSteps := 1000000) (disch := first | omega | rfl) [m15, h27, kl, fl, zl2, xl, hu', -List.reduceReplicate, boxO, KVl, KF, KS, getS, getO, gS, zipN, dropW, takeW, wds, stvs, sea, seaL, refs, refsL, refsEls, refsO, isPureEls, isPures, isPure, noExt, noExts, noExtEls, cellsL, ren, renL, renEls, keepO, keepS, keysO, refsS, refsOB, headC, setS, boxO, row, putW, putB, putB1, eNl, newOs, frz, renO, noExtO, zps, zp, two32, w64, -getElem?_pos, k_cnt, k_cnt0]
set_option maxHeartbeats 8000000 in
theorem R16s (M d : Nat) (key : List Int) (f : Fra) (hk : key.length = 32) (hr : ∀ x ∈ key, 0 ≤ x ∧ x ≤ 255) (o : okF f) : sem tab (M + 1000) (d + 11) 16 [.agg [.blob 32 (uL key)], .agg (frC f)] [] = some (.i .i64 (chkX (tX key f) f), []) := by
  rw [sem_succ tab (M + 1000) (d + 10) 16 m16 rfl]
  have h27 := R14s M d key f hk hr o
  have kl := uL_len key
  rw [hk] at kl
  have fl : (uL f.tag).length = 32 := by rw [uL_len, o.tag]
  have hu' := uz32.symm
  have zl2 : (uL z32).length = 32 := by rw [uL_len]; rfl
  have xl : (uL (tX key f)).length = 32 := by rw [uL_len, tX_len]
  have q1 := eqIs_uL (tX key f) f.tag (by rw [tX_len, o.tag])
  unfold outT at h27
  unfold chkX
  cases c : canX f <;> rw [c] at h27 <;> simp only [cond_true, cond_false] at h27 ⊢
  · obtain ⟨a1, a2, a3, a4, a5, a6, a7, a8, a9⟩ := f
    simp only [frC, row] at *
    clear q1
    generalize uL a9 = q at *
    generalize uL key = u at *
    generalize uL z32 = z at *
    simp -implicitDefEqProofs (maxSteps := 1000000) (disch := first | omega | rfl) [m16, h27, kl, fl, zl2, hu', -List.reduceReplicate, boxO, KVl, KF, KS, getS, getO, gS, zipN, dropW, takeW, wds, stvs, sea, seaL, refs, refsL, refsEls, refsO, isPureEls, isPures, isPure, noExt, noExts, noExtEls, cellsL, ren, renL, renEls, keepO, keepS, keysO, refsS, refsOB, headC, setS, boxO, row, putW, putB, putB1, eNl, newOs, frz, renO, noExtO, zps, zp, two32, w64, -getElem?_pos, k_cnt, k_cnt0]
  · generalize decide (tX key f = f.tag) = e at *
    generalize tX key f = X at *
    obtain ⟨a1, a2, a3, a4, a5, a6, a7, a8, a9⟩ := f
    simp only [frC, row] at *
    generalize uL a9 = q at *
    generalize uL X = x at *
    generalize uL key = u at *
    generalize uL z32 = z at *
    cases e <;> simp only [cond_true, cond_false] <;>
    simp -implicitDefEqProofs (maxSteps := 1000000) (disch := first | omega | rfl) [m16, h27, kl, fl, zl2, xl, q1, hu', -List.reduceReplicate, boxO, KVl, KF, KS, getS, getO, gS, zipN, dropW, takeW, wds, stvs, sea, seaL, refs, refsL, refsEls, refsO, isPureEls, isPures, isPure, noExt, noExts, noExtEls, cellsL, ren, renL, renEls, keepO, keepS, keysO, refsS, refsOB, headC, setS, boxO, row, putW, putB, putB1, eNl, newOs, frz, renO, noExtO, zps, zp, two32, w64, -getElem?_pos, k_cnt, k_cnt0]
end
end Go.Proofs.YtgpggpbibdnfhaaDoor
