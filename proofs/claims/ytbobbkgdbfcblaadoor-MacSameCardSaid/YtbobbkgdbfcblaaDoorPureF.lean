/- Plain lemmas: bytes added to a state. -/
import Derived.Test.YtbobbkgdbfcblaaDoorPureE
import Derived.Test.YtbobbkgdbfcblaaDoorPureC
set_option linter.all false
set_option linter.unusedSimpArgs false
set_option linter.unusedVariables false
namespace Go.Proofs.YtbobbkgdbfcblaaDoor
open Go
theorem hashV_wL (ns : List Int) (g : Bool) (xs : List Int) (L : Int) : hashV ns g xs L = .agg [.blob 8 (wL ns), .l g (byL xs), .i .i64 L] := rfl
set_option maxHeartbeats 4000000 in
/-- What is added. -/
theorem L19 (M d : Nat) (ns xs ys : List Int) (L : Int) (hn : ns.length = 8) (hm : mayB xs.length L = true) (hL : (ys.length : Int) ≤ 1048576 - L) (h : xs.length + ys.length ≤ 57600) :
    sem tab (M + 1000) (d + 6) 19 [hashV ns false xs L, .l false (byL ys)] [] = some (hashV (rounds ns (xs ++ ys)).1 true (rounds ns (xs ++ ys)).2 (L + ys.length), []) := by
  rw [sem_succ tab (M + 1000) (d + 5) 19 m19 rfl]
  have h23 := L23 (M + 1000) (d + 4) ns xs L
  rw [hm] at h23
  have h38 := L38 (M + 997) (d + 3) xs ys (by omega)
  have h37 := L37 M d ns (xs ++ ys) hn (by simp; omega)
  obtain ⟨l1, l2⟩ := rounds_len _ ns (xs ++ ys) (Nat.le_refl _) hn
  have hlt : (rounds ns (xs ++ ys)).2.length ≤ 57600 := by rw [l2]; omega
  have h39 := L39 (M + 1000) (d + 4) (rounds ns (xs ++ ys)).2 (by omega)
  have hL0 : 0 ≤ L := by simp [mayB] at hm; exact hm.1
  have hx := byL_len xs
  have hy := byL_len ys
  have hxy := byL_len (xs ++ ys)
  have hq := byL_len (rounds ns (xs ++ ys)).2
  simp only [hashV_wL] at h23 ⊢
  generalize byL xs = a at *
  generalize byL ys = b at *
  generalize byL (xs ++ ys) = c at *
  generalize byL (rounds ns (xs ++ ys)).2 = q at *
  generalize wL (rounds ns (xs ++ ys)).1 = r2 at *
  generalize wL ns = r at *
  rw [← hq] at h39
  rw [List.length_append] at hxy
  rw [← hx, ← hy] at h38 hxy h
  rw [← hy] at hL ⊢
  have n1 : ¬ ((b.length : Int) > 1048576 - L) := by omega
  have n2 : ¬ (1048576 - L < (b.length : Int)) := by omega
  have hc : c.length = a.length + b.length := hxy
  have ht : List.take (a.length + b.length) c = c := List.take_of_length_le (by omega)
  have ht2 : List.take q.length q = q := List.take_of_length_le (by omega)
  simp -implicitDefEqProofs (maxSteps := 1000000) (disch := first | omega | rfl) [m19, h23, h38, h37, h39, n1, n2, hc, ht, ht2, k_g0, k_gs, k_bnd, k_bndO, k_br_t, k_br_f, k_br_u, k_agree, k_loop, k_add, k_sub, k_mul, k_lss, k_leq, k_gtr, k_geq, k_eql, k_neq, k_rem, k_quo, k_and, k_or, k_xor, k_shl, k_shr, k_seql, k_sneq, k_sadd, k_beql, k_bneq, k_not, k_neg, k_com, k_cv, k_pk, k_gd, k_gdt, k_gdO, k_gdOt, k_ext, k_fA, k_l1, k_l1b, k_l1q, k_l1qb, k_lN, k_lNq, k_atO, k_atE, k_aggO, k_takeO, k_blobAt, k_nthB, k_hd_i, k_hd_b, k_hd_s, k_hd_l, k_hd_e, k_hd_sl, k_rt_l, k_rt_i, k_rt_b, k_rt_s, k_rt_blob, k_st, k_stb, k_stX, k_stE, k_stD, k_stB, k_stG, k_stF, k_stP, k_stQ, k_puris0, k_puris, k_puriC, k_puri_i, k_puri_b, k_puri_l, k_c_agg, k_c_i, k_c_b, k_c_s, k_c_l, k_c_e, k_c_sl, k_c_p, k_sv_agg, k_sv_i, k_sv_b, k_sv_s, k_sv_l, k_sv_e, k_sv_sl, k_sc_i, k_sc_b, k_wd_i, k_wd_b, k_wd_s, k_wd_l, k_wd_e, k_wd_sl, k_wd_p, k_wd_blob, k_al, k_bx, k_new, k_len_l, k_len_e, k_len_sl, k_len_bs, k_lenS, k_cp_e, k_eNs_l, k_eNs_e, k_xS_l, k_xS_sl, k_xSO, k_elQ, k_xA, k_xAq, k_slc_l, k_slc_e, k_slc_sl, k_slL, k_slE, k_slO, k_opt0, k_opt1, k_map0, k_allW0, k_allW1, k_fe0, k_fe1, k_fs0, k_fs1, k_fl_i, k_fl_b, k_fl_l, k_ap, k_cont_l, k_cont_e, k_cont_s, k_cont_sl, k_contL_l, k_contL_e, k_contL_sl, k_contX, k_apC, k_apE_e, k_apE_sl, k_apO, k_apz, k_bldS0, k_bldS, k_bld, k_bldC0, k_bldC, k_eAr, k_b2s, k_b2sC, k_strO, k_ca0, k_ca0X, k_ca0R, k_reiN0, k_reiN1, k_rs1_0, k_rs_0, k_rl_0, k_re_0, k_rs1, k_rs, k_rl, k_re, k_r0_l, k_r0_e, k_r0_i, k_r0_b, k_r0_s, k_r0_blob, k_r0_sl, k_r0_bs, k_r1_agg, k_r1_l, k_r1_e, k_r1_i, k_r1_b, k_r1_s, k_r1_sl, k_r1_bs, k_contL_bs, k_contB, k_r_l, k_r_sl, k_back0, k_back1, k_one1, k_one2, k_handX, k_rowX, k_ca, k_ca_ei, k_fin1, k_fin2, k_res_b, k_res_i, k_res_s, k_res_l, k_res_e, k_res_agg, k_res_sl, k_head, k_head0, k_headF, k_headOK, k_hc0, k_asR_e, k_asR_sl, k_sea_sl, getS, getO, gS, zipN, dropW, takeW, wds, stvs, sea, seaL, refs, refsL, refsEls, refsO, isPureEls, isPures, isPure, noExt, noExts, noExtEls, cellsL, ren, renL, renEls, keepO, keepS, keysO, refsS, refsOB, cntN, headC, setS, boxO, row, putW, putB, putB1, eNl, newOs, frz, renO, noExtO, zps, zp, two32, w64, -getElem?_pos]
def zero8 : List Int := [0, 0, 0, 0, 0, 0, 0, 0]
set_option maxHeartbeats 4000000 in
/-- What may not be added. -/
theorem L19z (M d : Nat) (ns xs ys : List Int) (L : Int) (h : mayB xs.length L = false ∨ (mayB xs.length L = true ∧ ¬ (ys.length : Int) ≤ 1048576 - L)) :
    sem tab (M + 1000) (d + 6) 19 [hashV ns false xs L, .l false (byL ys)] [] = some (hashV zero8 true [] 0, []) := by
  rw [sem_succ tab (M + 1000) (d + 5) 19 m19 rfl]
  have h23 := L23 (M + 1000) (d + 4) ns xs L
  have hy := byL_len ys
  have hz : wL zero8 = [.i .u32 0, .i .u32 0, .i .u32 0, .i .u32 0, .i .u32 0, .i .u32 0, .i .u32 0, .i .u32 0] := rfl
  have hb : byL [] = [] := rfl
  rcases h with hm | ⟨hm, hL⟩
  · rw [hm] at h23
    simp only [hashV_wL, hz, hb] at h23 ⊢
    generalize byL xs = a at *
    generalize byL ys = b at *
    generalize wL ns = r at *
    simp -implicitDefEqProofs (maxSteps := 1000000) (disch := first | omega | rfl) [m19, h23, k_g0, k_gs, k_bnd, k_bndO, k_br_t, k_br_f, k_br_u, k_agree, k_loop, k_add, k_sub, k_mul, k_lss, k_leq, k_gtr, k_geq, k_eql, k_neq, k_rem, k_quo, k_and, k_or, k_xor, k_shl, k_shr, k_seql, k_sneq, k_sadd, k_beql, k_bneq, k_not, k_neg, k_com, k_cv, k_pk, k_gd, k_gdt, k_gdO, k_gdOt, k_ext, k_fA, k_l1, k_l1b, k_l1q, k_l1qb, k_lN, k_lNq, k_atO, k_atE, k_aggO, k_takeO, k_blobAt, k_nthB, k_hd_i, k_hd_b, k_hd_s, k_hd_l, k_hd_e, k_hd_sl, k_rt_l, k_rt_i, k_rt_b, k_rt_s, k_rt_blob, k_st, k_stb, k_stX, k_stE, k_stD, k_stB, k_stG, k_stF, k_stP, k_stQ, k_puris0, k_puris, k_puriC, k_puri_i, k_puri_b, k_puri_l, k_c_agg, k_c_i, k_c_b, k_c_s, k_c_l, k_c_e, k_c_sl, k_c_p, k_sv_agg, k_sv_i, k_sv_b, k_sv_s, k_sv_l, k_sv_e, k_sv_sl, k_sc_i, k_sc_b, k_wd_i, k_wd_b, k_wd_s, k_wd_l, k_wd_e, k_wd_sl, k_wd_p, k_wd_blob, k_al, k_bx, k_new, k_len_l, k_len_e, k_len_sl, k_len_bs, k_lenS, k_cp_e, k_eNs_l, k_eNs_e, k_xS_l, k_xS_sl, k_xSO, k_elQ, k_xA, k_xAq, k_slc_l, k_slc_e, k_slc_sl, k_slL, k_slE, k_slO, k_opt0, k_opt1, k_map0, k_allW0, k_allW1, k_fe0, k_fe1, k_fs0, k_fs1, k_fl_i, k_fl_b, k_fl_l, k_ap, k_cont_l, k_cont_e, k_cont_s, k_cont_sl, k_contL_l, k_contL_e, k_contL_sl, k_contX, k_apC, k_apE_e, k_apE_sl, k_apO, k_apz, k_bldS0, k_bldS, k_bld, k_bldC0, k_bldC, k_eAr, k_b2s, k_b2sC, k_strO, k_ca0, k_ca0X, k_ca0R, k_reiN0, k_reiN1, k_rs1_0, k_rs_0, k_rl_0, k_re_0, k_rs1, k_rs, k_rl, k_re, k_r0_l, k_r0_e, k_r0_i, k_r0_b, k_r0_s, k_r0_blob, k_r0_sl, k_r0_bs, k_r1_agg, k_r1_l, k_r1_e, k_r1_i, k_r1_b, k_r1_s, k_r1_sl, k_r1_bs, k_contL_bs, k_contB, k_r_l, k_r_sl, k_back0, k_back1, k_one1, k_one2, k_handX, k_rowX, k_ca, k_ca_ei, k_fin1, k_fin2, k_res_b, k_res_i, k_res_s, k_res_l, k_res_e, k_res_agg, k_res_sl, k_head, k_head0, k_headF, k_headOK, k_hc0, k_asR_e, k_asR_sl, k_sea_sl, getS, getO, gS, zipN, dropW, takeW, wds, stvs, sea, seaL, refs, refsL, refsEls, refsO, isPureEls, isPures, isPure, noExt, noExts, noExtEls, cellsL, ren, renL, renEls, keepO, keepS, keysO, refsS, refsOB, cntN, headC, setS, boxO, row, putW, putB, putB1, eNl, newOs, frz, renO, noExtO, zps, zp, two32, w64, -getElem?_pos]
  · rw [hm] at h23
    have hL0 : 0 ≤ L ∧ L ≤ 1048576 := by simp [mayB] at hm; exact ⟨hm.1, hm.2.1⟩
    simp only [hashV_wL, hz, hb] at h23 ⊢
    rw [← hy] at hL
    generalize byL xs = a at *
    generalize byL ys = b at *
    generalize wL ns = r at *
    have n1 : (b.length : Int) > 1048576 - L := by omega
    have n2 : 1048576 - L < (b.length : Int) := by omega
    simp -implicitDefEqProofs (maxSteps := 1000000) (disch := first | omega | rfl) [m19, h23, n1, n2, k_g0, k_gs, k_bnd, k_bndO, k_br_t, k_br_f, k_br_u, k_agree, k_loop, k_add, k_sub, k_mul, k_lss, k_leq, k_gtr, k_geq, k_eql, k_neq, k_rem, k_quo, k_and, k_or, k_xor, k_shl, k_shr, k_seql, k_sneq, k_sadd, k_beql, k_bneq, k_not, k_neg, k_com, k_cv, k_pk, k_gd, k_gdt, k_gdO, k_gdOt, k_ext, k_fA, k_l1, k_l1b, k_l1q, k_l1qb, k_lN, k_lNq, k_atO, k_atE, k_aggO, k_takeO, k_blobAt, k_nthB, k_hd_i, k_hd_b, k_hd_s, k_hd_l, k_hd_e, k_hd_sl, k_rt_l, k_rt_i, k_rt_b, k_rt_s, k_rt_blob, k_st, k_stb, k_stX, k_stE, k_stD, k_stB, k_stG, k_stF, k_stP, k_stQ, k_puris0, k_puris, k_puriC, k_puri_i, k_puri_b, k_puri_l, k_c_agg, k_c_i, k_c_b, k_c_s, k_c_l, k_c_e, k_c_sl, k_c_p, k_sv_agg, k_sv_i, k_sv_b, k_sv_s, k_sv_l, k_sv_e, k_sv_sl, k_sc_i, k_sc_b, k_wd_i, k_wd_b, k_wd_s, k_wd_l, k_wd_e, k_wd_sl, k_wd_p, k_wd_blob, k_al, k_bx, k_new, k_len_l, k_len_e, k_len_sl, k_len_bs, k_lenS, k_cp_e, k_eNs_l, k_eNs_e, k_xS_l, k_xS_sl, k_xSO, k_elQ, k_xA, k_xAq, k_slc_l, k_slc_e, k_slc_sl, k_slL, k_slE, k_slO, k_opt0, k_opt1, k_map0, k_allW0, k_allW1, k_fe0, k_fe1, k_fs0, k_fs1, k_fl_i, k_fl_b, k_fl_l, k_ap, k_cont_l, k_cont_e, k_cont_s, k_cont_sl, k_contL_l, k_contL_e, k_contL_sl, k_contX, k_apC, k_apE_e, k_apE_sl, k_apO, k_apz, k_bldS0, k_bldS, k_bld, k_bldC0, k_bldC, k_eAr, k_b2s, k_b2sC, k_strO, k_ca0, k_ca0X, k_ca0R, k_reiN0, k_reiN1, k_rs1_0, k_rs_0, k_rl_0, k_re_0, k_rs1, k_rs, k_rl, k_re, k_r0_l, k_r0_e, k_r0_i, k_r0_b, k_r0_s, k_r0_blob, k_r0_sl, k_r0_bs, k_r1_agg, k_r1_l, k_r1_e, k_r1_i, k_r1_b, k_r1_s, k_r1_sl, k_r1_bs, k_contL_bs, k_contB, k_r_l, k_r_sl, k_back0, k_back1, k_one1, k_one2, k_handX, k_rowX, k_ca, k_ca_ei, k_fin1, k_fin2, k_res_b, k_res_i, k_res_s, k_res_l, k_res_e, k_res_agg, k_res_sl, k_head, k_head0, k_headF, k_headOK, k_hc0, k_asR_e, k_asR_sl, k_sea_sl, getS, getO, gS, zipN, dropW, takeW, wds, stvs, sea, seaL, refs, refsL, refsEls, refsO, isPureEls, isPures, isPure, noExt, noExts, noExtEls, cellsL, ren, renL, renEls, keepO, keepS, keysO, refsS, refsOB, cntN, headC, setS, boxO, row, putW, putB, putB1, eNl, newOs, frz, renO, noExtO, zps, zp, two32, w64, -getElem?_pos]
end Go.Proofs.YtbobbkgdbfcblaaDoor
