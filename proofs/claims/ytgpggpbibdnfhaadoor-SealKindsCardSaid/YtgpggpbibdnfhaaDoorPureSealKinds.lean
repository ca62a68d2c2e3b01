/- A tag tells the kind: the plain law. -/
import Derived.Test.YtgpggpbibdnfhaaDoorPgD
set_option linter.all false
set_option linter.unusedSimpArgs false
set_option linter.unusedVariables false
namespace Go.Proofs.YtgpggpbibdnfhaaDoor
open Go
attribute [local congr] bnd_cg bndO_cg br_cg
theorem front_kind {f g : Fra} (cf : canX f = true) (cg : canX g = true) (h : frontF f = frontF g) : f.kind = g.kind := by
  have p1 := (can_pl cf).1
  have p2 := (can_pl cg).1
  have i1 : inB f.kind 0 6 = true := by
    have := tagd_kind (can_pl cf).2
    unfold inB; rw [Bool.and_eq_true, decide_eq_true_eq, decide_eq_true_eq]; omega
  have i2 : inB g.kind 0 6 = true := by
    have := tagd_kind (can_pl cg).2
    unfold inB; rw [Bool.and_eq_true, decide_eq_true_eq, decide_eq_true_eq]; omega
  obtain ⟨r1, e1⟩ := putF_head f i1
  obtain ⟨r2, e2⟩ := putF_head g i2
  have n1 : (frontF f)[2]? = some f.kind := by
    have l : 2 < (frontF f).length := by rw [frontF_len]; have := aheadF_le f.kind; omega
    have : (putF f)[2]? = some f.kind := by rw [e1]; rfl
    unfold putF at this
    rw [List.getElem?_append_left l] at this
    exact this
  have n2 : (frontF g)[2]? = some g.kind := by
    have l : 2 < (frontF g).length := by rw [frontF_len]; have := aheadF_le g.kind; omega
    have : (putF g)[2]? = some g.kind := by rw [e2]; rfl
    unfold putF at this
    rw [List.getElem?_append_left l] at this
    exact this
  rw [h, n2] at n1
  injection n1 with n1
  exact n1.symm
theorem chk_zero (own : List Int) (f : Fra) : (chkX own f == 0) = (canX f && decide (own = f.tag)) := by
  unfold chkX
  cases canX f <;> cases decide (own = f.tag) <;> rfl
set_option maxHeartbeats 16000000 in
theorem kinds_law (key : List Int) (f : Fra) (kind : Int) (hk : key.length = 32) (o : okF f) : sem tab 1000 15 3 [.agg [.blob 32 (uL key)], .agg (frC f), .i .i64 kind] [] = some (.b true, []) := by
  rw [sem_succ tab 1000 14 3 m3 rfl]
  have h8 : sem tab 1000 14 8 [] [] = some (.b true, []) := awakeS 0 0
  have og : okF { f with kind := kind } := ⟨o.sess, o.cn, o.count, o.tag, o.tagr⟩
  have s1 : sem tab 1000 14 9 [.agg [.blob 32 (uL key)], .agg (frC f)] [] = some (.i .i64 (chkX (tX key f) f), []) := V9s 0 1 key f hk o
  have s2 : sem tab 1000 14 9 [.agg [.blob 32 (uL key)], .agg (frC { f with kind := kind })] [] = some (.i .i64 (chkX (tX key { f with kind := kind }) { f with kind := kind }), []) := V9s 0 1 key { f with kind := kind } hk og
  have z1 := chk_zero (tX key f) f
  have z2 := chk_zero (tX key { f with kind := kind }) { f with kind := kind }
  have hu' := uz32.symm
  have kl : (uL key).length = 32 := by rw [uL_len, hk]
  cases c1 : (chkX (tX key f) f == 0)
  · have c1' : (chkX (tX key f) f != 0) = true := by rw [bne, c1]; rfl
    generalize chkX (tX key f) f = w at *
    clear z1 z2 s2
    obtain ⟨a1, a2, a3, a4, a5, a6, a7, a8, a9⟩ := f
    simp only [frC, row] at *
    generalize uL a9 = q at *
    generalize uL key = u at *
    simp -implicitDefEqProofs (maxSteps := 1000000) (disch := first | omega | rfl) [m3, h8, s1, c1, c1', kl, hu', -List.reduceReplicate, boxO, KVl, KF, KS, getS, getO, gS, zipN, dropW, takeW, wds, stvs, sea, seaL, refs, refsL, refsEls, refsO, isPureEls, isPures, isPure, noExt, noExts, noExtEls, cellsL, ren, renL, renEls, keepO, keepS, keysO, refsS, refsOB, headC, setS, boxO, row, putW, putB, putB1, eNl, newOs, frz, renO, noExtO, zps, zp, two32, w64, -getElem?_pos, k_cnt, k_cnt0]
  rw [c1] at z1
  rw [beq_iff_eq] at c1
  rw [c1] at s1
  by_cases c2 : kind = f.kind
  · clear z1 z2 s2 c1
    obtain ⟨a1, a2, a3, a4, a5, a6, a7, a8, a9⟩ := f
    simp only at c2
    subst c2
    simp only [frC, row] at *
    generalize uL a9 = q at *
    generalize uL key = u at *
    simp -implicitDefEqProofs (maxSteps := 1000000) (disch := first | omega | rfl) [m3, h8, s1, kl, hu', -List.reduceReplicate, boxO, KVl, KF, KS, getS, getO, gS, zipN, dropW, takeW, wds, stvs, sea, seaL, refs, refsL, refsEls, refsO, isPureEls, isPures, isPure, noExt, noExts, noExtEls, cellsL, ren, renL, renEls, keepO, keepS, keysO, refsS, refsOB, headC, setS, boxO, row, putW, putB, putB1, eNl, newOs, frz, renO, noExtO, zps, zp, two32, w64, -getElem?_pos, k_cnt, k_cnt0]
  have c2' : (kind == f.kind) = false := beq_eq_false_iff_ne.2 c2
  have c2d : decide (kind = f.kind) = false := decide_eq_false c2
  cases c3 : (chkX (tX key { f with kind := kind }) { f with kind := kind } == 0)
  · have c3' : (chkX (tX key { f with kind := kind }) { f with kind := kind } != 0) = true := by rw [bne, c3]; rfl
    generalize chkX (tX key { f with kind := kind }) { f with kind := kind } = w at *
    clear z1 z2 c1
    obtain ⟨a1, a2, a3, a4, a5, a6, a7, a8, a9⟩ := f
    simp only [frC, row] at *
    generalize uL a9 = q at *
    generalize uL key = u at *
    simp -implicitDefEqProofs (maxSteps := 1000000) (disch := first | omega | rfl) [m3, h8, s1, s2, c2', c2d, c3, c3', kl, hu', -List.reduceReplicate, boxO, KVl, KF, KS, getS, getO, gS, zipN, dropW, takeW, wds, stvs, sea, seaL, refs, refsL, refsEls, refsO, isPureEls, isPures, isPure, noExt, noExts, noExtEls, cellsL, ren, renL, renEls, keepO, keepS, keysO, refsS, refsOB, headC, setS, boxO, row, putW, putB, putB1, eNl, newOs, frz, renO, noExtO, zps, zp, two32, w64, -getElem?_pos, k_cnt, k_cnt0]
  rw [c3] at z2
  rw [beq_iff_eq] at c3
  rw [c3] at s2
  have z1 := z1.symm
  have z2 := z2.symm
  rw [Bool.and_eq_true, decide_eq_true_eq] at z1 z2
  have b1 : sem tab 1000 14 10 [.agg (frC f)] [] = _ := V10X 0 5 f o
  have b2 : sem tab 1000 14 10 [.agg (frC { f with kind := kind })] [] = _ := V10X 0 5 { f with kind := kind } og
  rw [z1.1, cond_true] at b1
  rw [z2.1, cond_true] at b2
  have haf := aheadF_le f.kind
  have hag := aheadF_le kind
  have t1 : sem tab 1000 14 11 [.l false (byL key), .l false (byL (frontF f))] [] = some (.agg [.blob 32 (uL (tX key f))], []) := L30 0 5 key (frontF f) (by omega) (by rw [frontF_len]; omega)
  have t2 : sem tab 1000 14 11 [.l false (byL key), .l false (byL (frontF { f with kind := kind }))] [] = some (.agg [.blob 32 (uL (tX key { f with kind := kind }))], []) := L30 0 5 key (frontF { f with kind := kind }) (by omega) (by rw [frontF_len]; show aheadF kind ≤ _; omega)
  rw [z1.2] at t1
  rw [z2.2] at t2
  have lf := byL_len (frontF f)
  rw [frontF_len] at lf
  have lg := byL_len (frontF { f with kind := kind })
  rw [frontF_len] at lg
  have tf : List.take (aheadF f.kind) (byL (frontF f)) = byL (frontF f) := List.take_of_length_le (by omega)
  have tg : List.take (aheadF kind) (byL (frontF { f with kind := kind })) = byL (frontF { f with kind := kind }) := List.take_of_length_le (by simp only at lg; omega)
  have cf := unB_by (frontF f)
  have cg := unB_by (frontF { f with kind := kind })
  have ne : decide (chars (frontF f) = chars (frontF { f with kind := kind })) = false := by
    rw [dec_charsF (frontF f) (frontF { f with kind := kind }) (catB_range (allF f)) (catB_range (allF { f with kind := kind }))]
    exact decide_eq_false fun h => c2 (front_kind z1.1 z2.1 h).symm
  have tk := take_k key hk
  have mk := map_uf key
  have q1 := eqIs_uL f.tag f.tag rfl
  rw [decide_eq_true rfl] at q1
  have x1 : (uL f.tag).length = 32 := by rw [uL_len, o.tag]
  clear z1 z2 c1 c3 haf hag
  generalize chars (frontF f) = sf at *
  generalize chars (frontF { f with kind := kind }) = sg at *
  have ne' : decide (¬ (sf = sg)) = true := by
    apply decide_eq_true
    exact of_decide_eq_false ne
  generalize byL (frontF f) = yf at *
  generalize byL (frontF { f with kind := kind }) = yg at *
  generalize byL key = bk at *
  generalize uL key = u at *
  generalize aheadF f.kind = nf at *
  simp only at lg b2
  generalize aheadF kind = ng at *
  obtain ⟨a1, a2, a3, a4, a5, a6, a7, a8, a9⟩ := f
  simp only [frC, row] at *
  generalize uL a9 = q at *
  simp -implicitDefEqProofs (maxSteps := 1000000) (disch := first | omega | rfl) [m3, h8, s1, s2, b1, b2, t1, t2, c2', c2d, lf, lg, tf, tg, cf, cg, ne, ne', tk, mk, q1, x1, kl, hu', -List.reduceReplicate, boxO, KVl, KF, KS, getS, getO, gS, zipN, dropW, takeW, wds, stvs, sea, seaL, refs, refsL, refsEls, refsO, isPureEls, isPures, isPure, noExt, noExts, noExtEls, cellsL, ren, renL, renEls, keepO, keepS, keysO, refsS, refsOB, headC, setS, boxO, row, putW, putB, putB1, eNl, newOs, frz, renO, noExtO, zps, zp, two32, w64, -getElem?_pos, k_cnt, k_cnt0]
theorem Pure.SealKinds (us : List PV) (h : TyAll Tryd.prog 8 [23, 26, 3] us) : ∃ N d out, sem tab N d 3 us [] = some (.b true, out) := by
  simp only [TyAll] at h
  obtain ⟨v0, _, rfl, h0, v1, _, rfl, h1, v2, _, rfl, h2, rfl⟩ := h
  obtain ⟨key, hk, _, rfl⟩ := id_of h0
  obtain ⟨f, hf, rfl⟩ := frame_of h1
  obtain ⟨k, _, _, rfl⟩ := int_of h2
  exact ⟨1000, 15, [], kinds_law key f k hk hf⟩
end Go.Proofs.YtgpggpbibdnfhaaDoor
