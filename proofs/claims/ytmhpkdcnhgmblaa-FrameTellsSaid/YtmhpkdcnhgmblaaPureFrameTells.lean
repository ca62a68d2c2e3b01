/- The bytes, the frame of bytes, the rows and the body are the document's: the plain law. -/
import Derived.Test.YtmhpkdcnhgmblaaPgD
set_option linter.all false
set_option linter.unusedSimpArgs false
set_option linter.unusedVariables false
namespace Go.Proofs.Ytmhpkdcnhgmblaa
open Go
attribute [local congr] bnd_cg bndO_cg br_cg
set_option maxHeartbeats 16000000 in
theorem ftells_law (f : Fra) (b : List Int) (hf : okF f) (hr : ∀ x ∈ b, 0 ≤ x ∧ x ≤ 255) : sem tab 1000 9 7 [.agg (frC f), .l false (byL b)] [] = some (.b true, []) := by
  rw [sem_succ tab 1000 8 7 m7 rfl]
  have h9 := awake4
  have bb := byL_len b
  by_cases c0 : (b.length : Int) > 400
  · rw [← bb] at c0
    obtain ⟨a1, a2, a3, a4, a5, a6, a7, a8, a9⟩ := f
    simp only [frC]
    generalize uL a9 = q at *
    generalize byL b = y at *
    simp -implicitDefEqProofs (maxSteps := 1000000) (disch := first | omega | rfl) [m7, h9, c0, boxO, KF, KS, getS, getO, gS, zipN, dropW, takeW, wds, stvs, sea, seaL, refs, refsL, refsEls, refsO, isPureEls, isPures, isPure, noExt, noExts, noExtEls, cellsL, ren, renL, renEls, keepO, keepS, keysO, refsS, refsOB, headC, setS, boxO, row, putW, putB, putB1, eNl, newOs, frz, renO, noExtO, zps, zp, two32, w64, -getElem?_pos, k_cnt, k_cnt0]
  have p1 := V10L f hf
  have p2 : sem tab 1000 8 14 [.agg (frC f)] [] = _ := R14 900 3 f hf
  have q1 := V17L f hf
  have q2 : sem tab 1000 8 18 [.agg (frC f)] [] = _ := R29 900 3 f hf
  have r1 := V11L b (by omega) hr
  have r2 : sem tab 1000 8 15 [.l false (byL b)] [] = outRd b := R15 0 2 b (by omega) hr
  have u1 : sem tab 1000 8 12 [.l false (byL b)] [] = outSf (splitN b.length b).1 (splitN b.length b).2 := V12 0 3 b (by omega) hr
  have u2 : sem tab 1000 8 16 [.l false (byL b)] [] = outRf (!(splitN b.length b).1.isEmpty) (splitN b.length b).1 (splitN b.length b).2 := R16 0 6 b (by omega) hr
  have hlen : (splitN b.length b).1.length ≤ b.length := by
    rw [← (frames_split b.length b).1, List.length_map]; exact (frames_ok b.length b).2
  have u3 : sem tab 1000 8 13 [.l false (rwL (splitN b.length b).1), .l false (rwL (splitN b.length b).1)] [] = some (.b true, []) := V13e 0 7 _ (by omega)
  have rd : ∃ (w : Fra) (e : Int), w.tag.length = 32 ∧ outRd b = some (.tup [.agg (frC w), .i .i64 e], []) := by
    unfold outRd
    cases hg : goodF b
    · exact ⟨zeF, _, z32_len, rfl⟩
    · exact ⟨seemF b, 0, (good_of hr hg).2.1.tag, rfl⟩
  obtain ⟨w, e, ow, ew⟩ := rd
  rw [ew] at r1 r2
  have es := eSt_frn false w w ow ow
  rw [eqFr_self] at es
  have tp := take_put (putF f)
  have lp := byL_len (putF f)
  have sp := unB_by (putF f)
  have tq : List.take (aheadF f.kind) (byL (frontF f)) = byL (frontF f) := List.take_of_length_le (by rw [byL_len, frontF_len]; exact Nat.le_refl _)
  have lq := byL_len (frontF f)
  rw [frontF_len] at lq
  have sq := unB_by (frontF f)
  have hu' := uz32.symm
  have wl : (uL w.tag).length = 32 := by rw [uL_len, ow]
  have lr := byL_len (splitN b.length b).2
  have tr := take_put (splitN b.length b).2
  have sr := unB_by (splitN b.length b).2
  have ll := rwL_len (splitN b.length b).1
  have tl : List.take (splitN b.length b).1.length (rwL (splitN b.length b).1) = rwL (splitN b.length b).1 := List.take_of_length_le (by omega)
  have un0 : unB [] = some [] := rfl
  unfold outRf at u2
  unfold outSf at u1 u2
  clear ew
  rw [← bb] at c0
  generalize (!(splitN b.length b).1.isEmpty) = fr at *
  generalize rwL (splitN b.length b).1 = L at *
  generalize byL (splitN b.length b).2 = r at *
  generalize chars (splitN b.length b).2 = cr at *
  generalize (splitN b.length b).1.length = nl at *
  generalize (splitN b.length b).2.length = nr at *
  generalize byL (putF f) = x at *
  generalize chars (putF f) = cx at *
  generalize (putF f).length = nx at *
  generalize byL (frontF f) = z at *
  generalize chars (frontF f) = cz at *
  generalize aheadF f.kind = nz at *
  generalize plainF f = pl at *
  generalize tagdF f.kind = tg at *
  clear hlen hr bb
  obtain ⟨a1, a2, a3, a4, a5, a6, a7, a8, a9⟩ := f
  obtain ⟨b1, b2, b3, b4, b5, b6, b7, b8, b9⟩ := w
  simp only [frC, zeF, row] at *
  generalize uL a9 = q at *
  generalize uL b9 = q' at *
  generalize uL z32 = zz at *
  generalize byL b = y at *
  cases fr <;> cases pl <;> cases tg <;> simp only [cond_true, cond_false, Bool.true_and, Bool.false_and, Bool.and_true, Bool.and_false, Bool.and_self] at p1 p2 q1 q2 u2 <;>
  simp -implicitDefEqProofs (maxSteps := 1000000) (disch := first | omega | rfl) [m7, h9, c0, p1, p2, q1, q2, r1, r2, u1, u2, u3, es, tp, lp, sp, tq, lq, sq, wl, lr, tr, sr, un0, ll, tl, hu', -List.reduceReplicate, boxO, KVl, KF, KS, getS, getO, gS, zipN, dropW, takeW, wds, stvs, sea, seaL, refs, refsL, refsEls, refsO, isPureEls, isPures, isPure, noExt, noExts, noExtEls, cellsL, ren, renL, renEls, keepO, keepS, keysO, refsS, refsOB, headC, setS, boxO, row, putW, putB, putB1, eNl, newOs, frz, renO, noExtO, zps, zp, two32, w64, -getElem?_pos, k_cnt, k_cnt0]
theorem Pure.FrameTells (us : List PV) (h : TyAll Try.prog 8 [26, 27] us) : ∃ N d out, sem tab N d 7 us [] = some (.b true, out) := by
  simp only [TyAll] at h
  obtain ⟨v0, _, rfl, h0, v1, _, rfl, h1, rfl⟩ := h
  obtain ⟨f, hf, rfl⟩ := frame_of h0
  obtain ⟨b, hb, rfl⟩ := bytes_of h1
  exact ⟨1000, 9, [], ftells_law f b hf hb⟩
end Go.Proofs.Ytmhpkdcnhgmblaa
