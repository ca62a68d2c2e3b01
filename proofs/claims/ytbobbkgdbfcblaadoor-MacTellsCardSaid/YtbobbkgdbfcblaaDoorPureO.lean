/- Plain lemmas: a tag. -/
import Derived.Test.YtbobbkgdbfcblaaDoorPureN
set_option linter.all false
set_option linter.unusedSimpArgs false
set_option linter.unusedVariables false
namespace Go.Proofs.YtbobbkgdbfcblaaDoor
open Go
set_option maxHeartbeats 4000000 in
theorem k_cav (Φ : Sem') (ob : OB) (n : Nat) (c L : Int) (b q : List (List PV)) (r : List PV) (h1 : getO ob 104 = some (box [.sl 136 0 0 64] 1)) (h2 : getO ob 136 = some (row b 1 true))
    (h : Φ 41 [.i .u8 c, .p 0 0 0 0 none] [box [.sl 1 0 0 64] 1, row b 1 true] = some (.agg [.blob 8 r, .l true q, .i .i64 L], [box [.sl 1 0 0 64] 1, row b 1 true])) :
    cav Φ ob n false (.fn 41 [] [.p 104 0 0 0 none]) [.i .u8 c] = some (.agg [.blob 8 r, .l true q, .i .i64 L], [(104, box [.sl 136 0 0 64] 1), (136, row b 1 true)]) := by
  simp only [box, row] at h h1 h2 ⊢
  simp [cav, ca, hand, reifies, reify, reify0, refs, refsL, refsEls, refsO, reach, h1, h2, getOs, idx, renL, ren, renEls, renO, h, back, putOs, newOs, nth]
theorem sum_agg (ys zs : List Int) (hl : ys.length = 64) (M d : Nat) (hz : zs.length ≤ 57000) :
    sem tab (M + 1000) (d + 6) 19 [hashV (rounds nFirst ys).1 false (rounds nFirst ys).2 64, .l false (byL zs)] [] = some (hashV (rounds nFirst (ys ++ zs)).1 true (rounds nFirst (ys ++ zs)).2 (ys ++ zs).length, []) := by
  obtain ⟨l1, l2⟩ := rounds_len _ nFirst ys (Nat.le_refl _) rfl
  have f6 : mayB (rounds nFirst ys).2.length 64 = true := by
    have : (rounds nFirst ys).2.length = 0 := by rw [l2, hl]
    rw [this]; decide
  have h := L19 M d _ _ zs _ l1 f6 (by omega) (by rw [l2]; omega)
  rw [← rounds_app _ nFirst ys zs (Nat.le_refl _), show (64 : Int) + zs.length = (ys ++ zs).length by simp [hl]] at h
  exact h
theorem end_agg (ys : List Int) (M d : Nat) : sem tab (M + 1000) (d + 6) 24 [hashV (rounds nFirst ys).1 false (rounds nFirst ys).2 ys.length] [] = some (.agg [.blob 32 (uL (sumI ys))], []) :=
  L24 M d _ _ _ (rounds_len _ nFirst ys (Nat.le_refl _) rfl).1
noncomputable def tagI (xs ys : List Int) : List Int := sumI (padI xs 92 ++ sumI (padI xs 54 ++ ys))
theorem tagI_len (xs ys : List Int) : (tagI xs ys).length = 32 := sumI_len _
set_option maxHeartbeats 8000000 in
/-- A tag. -/
theorem L30 (M d : Nat) (xs ys : List Int) (hx : xs.length ≤ 57600) (hy : ys.length ≤ 57000) : sem tab (M + 1000) (d + 9) 30 [.l false (byL xs), .l false (byL ys)] [] = some (.agg [.blob 32 (uL (tagI xs ys))], []) := by
  rw [sem_succ tab (M + 1000) (d + 8) 30 m30 rfl]
  have h31 := L31 M d xs hx
  have i1 := L41 M (d + 1) (blockI xs) (blockI_len xs) 54
  have i2 := L41 M (d + 1) (blockI xs) (blockI_len xs) 92
  change _ = some (hashV (rounds nFirst (padI xs 54)).1 true (rounds nFirst (padI xs 54)).2 64, _) at i1
  change _ = some (hashV (rounds nFirst (padI xs 92)).1 true (rounds nFirst (padI xs 92)).2 64, _) at i2
  have a1 := sum_agg (padI xs 54) ys (padI_len xs 54) M (d + 2) hy
  have e1 := end_agg (padI xs 54 ++ ys) M (d + 2)
  have a2 := sum_agg (padI xs 92) (sumI (padI xs 54 ++ ys)) (padI_len xs 92) M (d + 2) (by rw [sumI_len]; omega)
  have e2 := end_agg (padI xs 92 ++ sumI (padI xs 54 ++ ys)) M (d + 2)
  change _ = some (PV.agg [PV.blob 32 (uL (tagI xs ys))], []) at e2
  have hu := uL_by (sumI (padI xs 54 ++ ys))
  have hul := uL_len (sumI (padI xs 54 ++ ys))
  rw [sumI_len] at hul
  simp only [hashV_wL] at i1 i2 a1 a2 e1 e2
  generalize uL (tagI xs ys) = T at *
  generalize byL (rounds nFirst (padI xs 92 ++ sumI (padI xs 54 ++ ys))).2 = q4 at *
  generalize wL (rounds nFirst (padI xs 92 ++ sumI (padI xs 54 ++ ys))).1 = r4 at *
  generalize ((padI xs 92 ++ sumI (padI xs 54 ++ ys)).length : Int) = n4 at *
  generalize byL (rounds nFirst (padI xs 54 ++ ys)).2 = q3 at *
  generalize wL (rounds nFirst (padI xs 54 ++ ys)).1 = r3 at *
  generalize ((padI xs 54 ++ ys).length : Int) = n3 at *
  generalize byL (sumI (padI xs 54 ++ ys)) = s at *
  generalize uL (sumI (padI xs 54 ++ ys)) = u at *
  generalize byL (rounds nFirst (padI xs 54)).2 = q1 at *
  generalize wL (rounds nFirst (padI xs 54)).1 = r1 at *
  generalize byL (rounds nFirst (padI xs 92)).2 = q2 at *
  generalize wL (rounds nFirst (padI xs 92)).1 = r2 at *
  generalize byL (blockI xs) = b at *
  generalize byL xs = a at *
  generalize byL ys = c at *
  generalize hz : List.replicate 32 (PV.i IntKind.u8 0) = zz at *
  have htu : List.take 32 u = u := List.take_of_length_le (by omega)
  have k1 := fun (Y : Obj') (l : OB) (n : Nat) => k_cav (sem tab (M + 1000) (d + 8)) ((104, box [.sl 136 0 0 64] 1) :: (104, Y) :: (136, row b 1 true) :: l) n 54 64 b q1 r1 rfl rfl i1
  have k2 := fun (Y Z : Obj') (l : OB) (n : Nat) => k_cav (sem tab (M + 1000) (d + 8)) ((120, Y) :: (120, Z) :: (104, box [.sl 136 0 0 64] 1) :: (136, row b 1 true) :: l) n 92 64 b q2 r2 rfl rfl i2
  simp only [box, row] at k1 k2
  simp -implicitDefEqProofs (maxSteps := 1000000) (disch := first | omega | rfl) [m30, hz, h31, k1, k2, a1, a2, e1, e2, hu, hul, htu, box, k_slcA, k_slB, k_cont_bs, k_g0, k_gs, k_bnd, k_bndO, k_br_t, k_br_f, k_br_u, k_agree, k_loop, k_add, k_sub, k_mul, k_lss, k_leq, k_gtr, k_geq, k_eql, k_neq, k_rem, k_quo, k_and, k_or, k_xor, k_shl, k_shr, k_seql, k_sneq, k_sadd, k_beql, k_bneq, k_not, k_neg, k_com, k_cv, k_pk, k_gd, k_gdt, k_gdO, k_gdOt, k_ext, k_fA, k_l1, k_l1b, k_l1q, k_l1qb, k_lN, k_lNq, k_atO, k_atE, k_aggO, k_takeO, k_blobAt, k_nthB, k_hd_i, k_hd_b, k_hd_s, k_hd_l, k_hd_e, k_hd_sl, k_rt_l, k_rt_i, k_rt_b, k_rt_s, k_rt_blob, k_st, k_stb, k_stX, k_stE, k_stD, k_stB, k_stG, k_stF, k_stP, k_stQ, k_puris0, k_puris, k_puriC, k_puri_i, k_puri_b, k_puri_l, k_c_agg, k_c_i, k_c_b, k_c_s, k_c_l, k_c_e, k_c_sl, k_c_p, k_sv_agg, k_sv_i, k_sv_b, k_sv_s, k_sv_l, k_sv_e, k_sv_sl, k_sc_i, k_sc_b, k_wd_i, k_wd_b, k_wd_s, k_wd_l, k_wd_e, k_wd_sl, k_wd_p, k_wd_blob, k_al, k_bx, k_new, k_len_l, k_len_e, k_len_sl, k_len_bs, k_lenS, k_cp_e, k_eNs_l, k_eNs_e, k_xS_l, k_xS_sl, k_xSO, k_elQ, k_xA, k_xAq, k_slc_l, k_slc_e, k_slc_sl, k_slL, k_slE, k_slO, k_opt0, k_opt1, k_map0, k_allW0, k_allW1, k_fe0, k_fe1, k_fs0, k_fs1, k_fl_i, k_fl_b, k_fl_l, k_ap, k_cont_l, k_cont_e, k_cont_s, k_cont_sl, k_contL_l, k_contL_e, k_contL_sl, k_contX, k_apC, k_apE_e, k_apE_sl, k_apO, k_apz, k_bldS0, k_bldS, k_bld, k_bldC0, k_bldC, k_eAr, k_b2s, k_b2sC, k_strO, k_ca0, k_ca0X, k_ca0R, k_reiN0, k_reiN1, k_rs1_0, k_rs_0, k_rl_0, k_re_0, k_rs1, k_rs, k_rl, k_re, k_r0_l, k_r0_e, k_r0_i, k_r0_b, k_r0_s, k_r0_blob, k_r0_sl, k_r0_bs, k_r1_agg, k_r1_l, k_r1_e, k_r1_i, k_r1_b, k_r1_s, k_r1_sl, k_r1_bs, k_contL_bs, k_contB, k_r_l, k_r_sl, k_back0, k_back1, k_one1, k_one2, k_handX, k_rowX, k_ca, k_ca_ei, k_fin1, k_fin2, k_res_b, k_res_i, k_res_s, k_res_l, k_res_e, k_res_agg, k_res_sl, k_head, k_head0, k_headF, k_headOK, k_hc0, k_asR_e, k_asR_sl, k_sea_sl, getS, getO, gS, zipN, dropW, takeW, wds, stvs, sea, seaL, refs, refsL, refsEls, refsO, isPureEls, isPures, isPure, noExt, noExts, noExtEls, cellsL, ren, renL, renEls, keepO, keepS, keysO, refsS, refsOB, cntN, headC, setS, boxO, row, putW, putB, putB1, eNl, newOs, frz, renO, noExtO, zps, zp, two32, w64, -getElem?_pos]
end Go.Proofs.YtbobbkgdbfcblaaDoor
