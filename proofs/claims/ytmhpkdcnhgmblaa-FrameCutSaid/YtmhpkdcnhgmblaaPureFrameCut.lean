/- No beginning of a frame but all of it is read: the plain law. -/
import Derived.Test.YtmhpkdcnhgmblaaPgC
set_option linter.all false
set_option linter.unusedSimpArgs false
set_option linter.unusedVariables false
namespace Go.Proofs.Ytmhpkdcnhgmblaa
open Go
attribute [local congr] bnd_cg bndO_cg br_cg
set_option maxHeartbeats 16000000 in
theorem cut_law (f : Fra) (k : Int) (m : List Int) (hf : okF f) (hm : ∀ x ∈ m, 0 ≤ x ∧ x ≤ 255) : sem tab 1000 9 5 [.agg (frC f), .i .i64 k, .l false (byL m)] [] = some (.b true, []) := by
  rw [sem_succ tab 1000 8 5 m5 rfl]
  have h9 := awake4
  have p1 := V10L f hf
  have bm := byL_len m
  have bf := byL_len (putF f)
  cases c1 : plainF f
  · rw [c1, cond_false] at p1
    clear bf
    obtain ⟨a1, a2, a3, a4, a5, a6, a7, a8, a9⟩ := f
    simp only [frC, row] at *
    generalize uL a9 = q at *
    generalize byL m = b at *
    simp -implicitDefEqProofs (maxSteps := 1000000) (disch := first | omega | rfl) [m5, h9, p1, boxO, KF, KS, getS, getO, gS, zipN, dropW, takeW, wds, stvs, sea, seaL, refs, refsL, refsEls, refsO, isPureEls, isPures, isPure, noExt, noExts, noExtEls, cellsL, ren, renL, renEls, keepO, keepS, keysO, refsS, refsOB, headC, setS, boxO, row, putW, putB, putB1, eNl, newOs, frz, renO, noExtO, zps, zp, two32, w64, -getElem?_pos, k_cnt, k_cnt0]
  rw [c1, cond_true] at p1
  by_cases c2 : (m.length : Int) > 100
  · have tf := take_put (putF f)
    rw [← bm] at c2
    generalize byL (putF f) = pf at *
    generalize (putF f).length = n at *
    obtain ⟨a1, a2, a3, a4, a5, a6, a7, a8, a9⟩ := f
    simp only [frC, row] at *
    generalize uL a9 = q at *
    generalize byL m = b at *
    simp -implicitDefEqProofs (maxSteps := 1000000) (disch := first | omega | rfl) [m5, h9, p1, c2, tf, bf, boxO, KF, KS, getS, getO, gS, zipN, dropW, takeW, wds, stvs, sea, seaL, refs, refsL, refsEls, refsO, isPureEls, isPures, isPure, noExt, noExts, noExtEls, cellsL, ren, renL, renEls, keepO, keepS, keysO, refsS, refsOB, headC, setS, boxO, row, putW, putB, putB1, eNl, newOs, frz, renO, noExtO, zps, zp, two32, w64, -getElem?_pos, k_cnt, k_cnt0]
  have hP := (plainF_iff f).1 c1
  have rf := putF_range f hf.tagr
  have ln := putF_len f hP.kind hf.tag
  have sz := szF_le f.kind
  have hlong := long_put f hP.kind hf.tag m
  have hr1 : ∀ x ∈ putF f ++ m, 0 ≤ x ∧ x ≤ 255 := fun x hx => by
    rcases List.mem_append.1 hx with hx | hx
    · exact rf x hx
    · exact hm x hx
  have r1 := V11L (putF f ++ m) (by rw [List.length_append]; omega) hr1
  have hap : byL (putF f ++ m) = byL (putF f) ++ byL m := by simp [byL]
  rw [hap] at r1
  have tf := take_put (putF f)
  have tall : List.take ((putF f).length + m.length) (byL (putF f) ++ byL m) = byL (putF f) ++ byL m := List.take_of_length_le (by simp [bf, bm])
  have hk : 0 ≤ k → k < (putF f).length → sem tab 1000 8 11 [.l false ((byL (putF f)).take k.toNat)] [] = errR 4 := fun h0 h1 => by
    have hkn : k.toNat < (putF f).length := by omega
    have r2 := V11L ((putF f).take k.toNat) (by rw [List.length_take]; omega) (fun x hx => rf x (List.mem_of_mem_take hx))
    have hb : byL ((putF f).take k.toNat) = (byL (putF f)).take k.toNat := by simp [byL]
    rw [hb] at r2
    rw [r2]
    unfold outRd errF
    rw [bad_cut f hP hf k.toNat hkn, cond_false, if_neg (by rw [List.length_take]; omega), if_pos (long_cut f hP.kind hf.tag k.toNat hkn)]
  have wl : IntKind.i64.wrap (((putF f).length : Int) + m.length) = (((putF f).length + m.length : Nat) : Int) := by rw [IntKind.wrap_i64]; omega
  have fl := flat_by m
  have wm := allW_by m
  have fp := flat_by (putF f)
  have wp := allW_by (putF f)
  have e1 : ¬ ((putF f).length + m.length ≤ (putF f).length) ∨ m = [] := by
    cases m with
    | nil => exact .inr rfl
    | cons x r => left; simp
  obtain ⟨a1, a2, a3, a4, a5, a6, a7, a8, a9⟩ := f
  by_cases h64 : 64 < (putF ⟨a1, a2, a3, a4, a5, a6, a7, a8, a9⟩ ++ m).length
  · have hg : goodF (putF ⟨a1, a2, a3, a4, a5, a6, a7, a8, a9⟩ ++ m) = false := by
      rw [← Bool.not_eq_true]; intro hg
      have := good_len hr1 hg; omega
    unfold outRd errF errR at r1
    rw [hg, cond_false, if_pos h64] at r1
    rw [List.length_append] at h64
    clear hlong hr1 hap c1 rf hg
    generalize hx : byL (putF ⟨a1, a2, a3, a4, a5, a6, a7, a8, a9⟩) = x at *
    generalize hn : (putF ⟨a1, a2, a3, a4, a5, a6, a7, a8, a9⟩).length = n at *
    generalize hy : byL m = y at *
    subst bf
    have wl' : IntKind.i64.wrap ((x.length : Int) + y.length) = (x.length : Int) + y.length := by rw [IntKind.wrap_i64]; omega
    rw [← bm] at tall c2 h64
    have c64 : (x.length : Int) + y.length > 64 := by omega
    have g1 : ¬ (x.length + y.length ≤ x.length) := by omega
    have g2 : x.length + y.length ≤ 4294967296 := by omega
    have g3 : x.length ≤ 4294967296 := by omega
    have hz : ((y.length : Int) == 0) = false := by rw [beq_eq_false_iff_ne]; omega
    simp only [frC, zeF, row] at p1 r1 hk ⊢
    generalize uL a9 = q at *
    clear wl e1
    by_cases k0 : k < 0
    · simp -implicitDefEqProofs (maxSteps := 1000000) (disch := first | omega | rfl) [m5, h9, p1, r1, wl', c64, g1, g2, g3, hz, k0, c2, tf, tall, fl, wm, fp, wp, allW, flatEls, boxO, KF, KS, getS, getO, gS, zipN, dropW, takeW, wds, stvs, sea, seaL, refs, refsL, refsEls, refsO, isPureEls, isPures, isPure, noExt, noExts, noExtEls, cellsL, ren, renL, renEls, keepO, keepS, keysO, refsS, refsOB, headC, setS, boxO, row, putW, putB, putB1, eNl, newOs, frz, renO, noExtO, zps, zp, two32, w64, -getElem?_pos, k_cnt, k_cnt0]
    by_cases k1 : k ≥ (x.length : Int)
    · simp -implicitDefEqProofs (maxSteps := 1000000) (disch := first | omega | rfl) [m5, h9, p1, r1, wl', c64, g1, g2, g3, hz, k0, k1, c2, tf, tall, fl, wm, fp, wp, allW, flatEls, boxO, KF, KS, getS, getO, gS, zipN, dropW, takeW, wds, stvs, sea, seaL, refs, refsL, refsEls, refsO, isPureEls, isPures, isPure, noExt, noExts, noExtEls, cellsL, ren, renL, renEls, keepO, keepS, keysO, refsS, refsOB, headC, setS, boxO, row, putW, putB, putB1, eNl, newOs, frz, renO, noExtO, zps, zp, two32, w64, -getElem?_pos, k_cnt, k_cnt0]
    have r3 := hk (by omega) (by omega)
    unfold errR at r3
    simp only [frC, zeF] at r3
    have hu' := uz32.symm
    have k2 : 0 ≤ k := by omega
    have k3 : k ≤ (x.length : Int) := by omega
    have k4 : k.toNat ≤ x.length := by omega
    generalize uL z32 = z at *
    simp -implicitDefEqProofs (maxSteps := 1000000) (disch := first | omega | rfl) [m5, h9, p1, r1, wl', c64, g1, g2, g3, hz, k0, k1, r3, k2, k3, k4, hu', -List.reduceReplicate, c2, tf, tall, fl, wm, fp, wp, allW, flatEls, boxO, KF, KS, getS, getO, gS, zipN, dropW, takeW, wds, stvs, sea, seaL, refs, refsL, refsEls, refsO, isPureEls, isPures, isPure, noExt, noExts, noExtEls, cellsL, ren, renL, renEls, keepO, keepS, keysO, refsS, refsOB, headC, setS, boxO, row, putW, putB, putB1, eNl, newOs, frz, renO, noExtO, zps, zp, two32, w64, -getElem?_pos, k_cnt, k_cnt0]

  · rw [List.length_append] at h64
    have hm0 : m = [] ∨ m ≠ [] := by cases m <;> simp
    rcases hm0 with hm0 | hm0
    · subst hm0
      rw [List.append_nil] at r1
      unfold outRd at r1
      rw [good_put _ hP hf, seem_put _ hP hf, cond_true] at r1
      unfold okR at r1
      have be : byL ([] : List Int) = [] := rfl
      rw [be, List.append_nil] at r1
      rw [be] at *
      clear hlong hr1 hap c1 rf tall
      generalize hx : byL (putF ⟨a1, a2, a3, a4, a5, a6, a7, a8, a9⟩) = x at *
      generalize hn : (putF ⟨a1, a2, a3, a4, a5, a6, a7, a8, a9⟩).length = n at *
      subst bf
      have c64 : ¬ (x.length : Int) > 64 := by simp at h64; omega
      have g2 : x.length ≤ 4294967296 := by omega
      have wl' : IntKind.i64.wrap (x.length : Int) = (x.length : Int) := by rw [IntKind.wrap_i64]; omega
      have tall := tf
      simp only [frC, zeF, row] at p1 r1 hk ⊢
      generalize uL a9 = q at *
      clear wl e1
      by_cases k0 : k < 0
      · simp -implicitDefEqProofs (maxSteps := 1000000) (disch := first | omega | rfl) [m5, h9, p1, r1, wl', c64, g2, k0, c2, tf, tall, fl, wm, fp, wp, allW, flatEls, boxO, KF, KS, getS, getO, gS, zipN, dropW, takeW, wds, stvs, sea, seaL, refs, refsL, refsEls, refsO, isPureEls, isPures, isPure, noExt, noExts, noExtEls, cellsL, ren, renL, renEls, keepO, keepS, keysO, refsS, refsOB, headC, setS, boxO, row, putW, putB, putB1, eNl, newOs, frz, renO, noExtO, zps, zp, two32, w64, -getElem?_pos, k_cnt, k_cnt0]
      by_cases k1 : k ≥ (x.length : Int)
      · simp -implicitDefEqProofs (maxSteps := 1000000) (disch := first | omega | rfl) [m5, h9, p1, r1, wl', c64, g2, k0, k1, c2, tf, tall, fl, wm, fp, wp, allW, flatEls, boxO, KF, KS, getS, getO, gS, zipN, dropW, takeW, wds, stvs, sea, seaL, refs, refsL, refsEls, refsO, isPureEls, isPures, isPure, noExt, noExts, noExtEls, cellsL, ren, renL, renEls, keepO, keepS, keysO, refsS, refsOB, headC, setS, boxO, row, putW, putB, putB1, eNl, newOs, frz, renO, noExtO, zps, zp, two32, w64, -getElem?_pos, k_cnt, k_cnt0]
      have r3 := hk (by omega) (by omega)
      unfold errR at r3
      simp only [frC, zeF] at r3
      have hu' := uz32.symm
      have k2 : 0 ≤ k := by omega
      have k3 : k ≤ (x.length : Int) := by omega
      have k4 : k.toNat ≤ x.length := by omega
      generalize uL z32 = z at *
      simp -implicitDefEqProofs (maxSteps := 1000000) (disch := first | omega | rfl) [m5, h9, p1, r1, wl', c64, g2, k0, k1, r3, k2, k3, k4, hu', -List.reduceReplicate, c2, tf, tall, fl, wm, fp, wp, allW, flatEls, boxO, KF, KS, getS, getO, gS, zipN, dropW, takeW, wds, stvs, sea, seaL, refs, refsL, refsEls, refsO, isPureEls, isPures, isPure, noExt, noExts, noExtEls, cellsL, ren, renL, renEls, keepO, keepS, keysO, refsS, refsOB, headC, setS, boxO, row, putW, putB, putB1, eNl, newOs, frz, renO, noExtO, zps, zp, two32, w64, -getElem?_pos, k_cnt, k_cnt0]

    · unfold outRd errF errR at r1
      rw [bad_more _ hP hf m hm hm0, cond_false, if_neg (by rw [List.length_append]; exact h64), hlong, if_neg (by omega)] at r1
      have ml : 0 < m.length := List.length_pos_iff.2 hm0
      clear hlong hr1 hap c1 rf
      generalize hx : byL (putF ⟨a1, a2, a3, a4, a5, a6, a7, a8, a9⟩) = x at *
      generalize hn : (putF ⟨a1, a2, a3, a4, a5, a6, a7, a8, a9⟩).length = n at *
      generalize hy : byL m = y at *
      subst bf
      have wl' : IntKind.i64.wrap ((x.length : Int) + y.length) = (x.length : Int) + y.length := by rw [IntKind.wrap_i64]; omega
      rw [← bm] at tall c2 h64 ml
      have c64 : ¬ (x.length : Int) + y.length > 64 := by omega
      have g1 : ¬ (x.length + y.length ≤ x.length) := by omega
      have g2 : x.length + y.length ≤ 4294967296 := by omega
      have g3 : x.length ≤ 4294967296 := by omega
      have hz : ((y.length : Int) == 0) = false := by rw [beq_eq_false_iff_ne]; omega
      have hz2 : (y.length : Int) > 0 := by omega
      simp only [frC, zeF, row] at p1 r1 hk ⊢
      generalize uL a9 = q at *
      clear wl e1
      by_cases k0 : k < 0
      · simp -implicitDefEqProofs (maxSteps := 1000000) (disch := first | omega | rfl) [m5, h9, p1, r1, wl', c64, g1, g2, g3, hz, hz2, ml, k0, c2, tf, tall, fl, wm, fp, wp, allW, flatEls, boxO, KF, KS, getS, getO, gS, zipN, dropW, takeW, wds, stvs, sea, seaL, refs, refsL, refsEls, refsO, isPureEls, isPures, isPure, noExt, noExts, noExtEls, cellsL, ren, renL, renEls, keepO, keepS, keysO, refsS, refsOB, headC, setS, boxO, row, putW, putB, putB1, eNl, newOs, frz, renO, noExtO, zps, zp, two32, w64, -getElem?_pos, k_cnt, k_cnt0]
      by_cases k1 : k ≥ (x.length : Int)
      · simp -implicitDefEqProofs (maxSteps := 1000000) (disch := first | omega | rfl) [m5, h9, p1, r1, wl', c64, g1, g2, g3, hz, hz2, ml, k0, k1, c2, tf, tall, fl, wm, fp, wp, allW, flatEls, boxO, KF, KS, getS, getO, gS, zipN, dropW, takeW, wds, stvs, sea, seaL, refs, refsL, refsEls, refsO, isPureEls, isPures, isPure, noExt, noExts, noExtEls, cellsL, ren, renL, renEls, keepO, keepS, keysO, refsS, refsOB, headC, setS, boxO, row, putW, putB, putB1, eNl, newOs, frz, renO, noExtO, zps, zp, two32, w64, -getElem?_pos, k_cnt, k_cnt0]
      have r3 := hk (by omega) (by omega)
      unfold errR at r3
      simp only [frC, zeF] at r3
      have hu' := uz32.symm
      have k2 : 0 ≤ k := by omega
      have k3 : k ≤ (x.length : Int) := by omega
      have k4 : k.toNat ≤ x.length := by omega
      generalize uL z32 = z at *
      simp -implicitDefEqProofs (maxSteps := 1000000) (disch := first | omega | rfl) [m5, h9, p1, r1, wl', c64, g1, g2, g3, hz, hz2, ml, k0, k1, r3, k2, k3, k4, hu', -List.reduceReplicate, c2, tf, tall, fl, wm, fp, wp, allW, flatEls, boxO, KF, KS, getS, getO, gS, zipN, dropW, takeW, wds, stvs, sea, seaL, refs, refsL, refsEls, refsO, isPureEls, isPures, isPure, noExt, noExts, noExtEls, cellsL, ren, renL, renEls, keepO, keepS, keysO, refsS, refsOB, headC, setS, boxO, row, putW, putB, putB1, eNl, newOs, frz, renO, noExtO, zps, zp, two32, w64, -getElem?_pos, k_cnt, k_cnt0]
theorem Pure.FrameCut (us : List PV) (h : TyAll Try.prog 8 [26, 3, 27] us) : ∃ N d out, sem tab N d 5 us [] = some (.b true, out) := by
  simp only [TyAll] at h
  obtain ⟨v0, _, rfl, h0, v1, _, rfl, h1, v2, _, rfl, h2, rfl⟩ := h
  obtain ⟨f, hf, rfl⟩ := frame_of h0
  obtain ⟨k, _, _, rfl⟩ := int_of h1
  obtain ⟨b, hb, rfl⟩ := bytes_of h2
  exact ⟨1000, 9, [], cut_law f k b hf hb⟩
end Go.Proofs.Ytmhpkdcnhgmblaa
