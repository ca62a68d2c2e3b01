/- A sum over parts is the sum over all: the plain law. -/
import Derived.Test.YtbobbkgdbfcblaaDoorPureH
import Derived.Test.YtbobbkgdbfcblaaDoorPureT
import Derived.Test.YtbobbkgdbfcblaaDoorAwakeT
set_option linter.all false
set_option linter.unusedSimpArgs false
set_option linter.unusedVariables false
namespace Go.Proofs.YtbobbkgdbfcblaaDoor
open Go
set_option maxHeartbeats 8000000 in
theorem parts_law (xs ys zs : List Int) : ∃ out, sem tab 1000 9 4 [.l false (byL xs), .l false (byL ys), .l false (byL zs)] [] = some (.b true, out) := by
  rw [sem_succ tab 1000 8 4 m4 rfl]
  have h15 := awake1
  have hlx := byL_len xs
  have hly := byL_len ys
  have hlz := byL_len zs
  by_cases f1 : (xs.length : Int) > 200
  · have f1' : 200 < (xs.length : Int) := f1
    rw [← hlx] at f1 f1'
    generalize byL xs = a at *
    generalize byL ys = b at *
    generalize byL zs = c at *
    simp -implicitDefEqProofs (maxSteps := 1000000) (disch := first | omega | rfl) [m4, h15, f1, f1', k_g0, k_gs, k_bnd, k_bndO, k_br_t, k_br_f, k_br_u, k_agree, k_loop, k_add, k_sub, k_mul, k_lss, k_leq, k_gtr, k_geq, k_eql, k_neq, k_rem, k_quo, k_and, k_or, k_xor, k_shl, k_shr, k_seql, k_sneq, k_sadd, k_beql, k_bneq, k_not, k_neg, k_com, k_cv, k_pk, k_gd, k_gdt, k_gdO, k_gdOt, k_ext, k_fA, k_l1, k_l1b, k_l1q, k_l1qb, k_lN, k_lNq, k_atO, k_atE, k_aggO, k_takeO, k_blobAt, k_nthB, k_hd_i, k_hd_b, k_hd_s, k_hd_l, k_hd_e, k_hd_sl, k_rt_l, k_rt_i, k_rt_b, k_rt_s, k_rt_blob, k_st, k_stb, k_stX, k_stE, k_stD, k_stB, k_stG, k_stF, k_stP, k_stQ, k_puris0, k_puris, k_puriC, k_puri_i, k_puri_b, k_puri_l, k_c_agg, k_c_i, k_c_b, k_c_s, k_c_l, k_c_e, k_c_sl, k_c_p, k_sv_agg, k_sv_i, k_sv_b, k_sv_s, k_sv_l, k_sv_e, k_sv_sl, k_sc_i, k_sc_b, k_wd_i, k_wd_b, k_wd_s, k_wd_l, k_wd_e, k_wd_sl, k_wd_p, k_wd_blob, k_al, k_bx, k_new, k_len_l, k_len_e, k_len_sl, k_len_bs, k_lenS, k_cp_e, k_eNs_l, k_eNs_e, k_xS_l, k_xS_sl, k_xSO, k_elQ, k_xA, k_xAq, k_slc_l, k_slc_e, k_slc_sl, k_slL, k_slE, k_slO, k_opt0, k_opt1, k_map0, k_allW0, k_allW1, k_fe0, k_fe1, k_fs0, k_fs1, k_fl_i, k_fl_b, k_fl_l, k_ap, k_cont_l, k_cont_e, k_cont_s, k_cont_sl, k_contL_l, k_contL_e, k_contL_sl, k_contX, k_apC, k_apE_e, k_apE_sl, k_apO, k_apz, k_bldS0, k_bldS, k_bld, k_bldC0, k_bldC, k_eAr, k_b2s, k_b2sC, k_strO, k_ca0, k_ca0X, k_ca0R, k_reiN0, k_reiN1, k_rs1_0, k_rs_0, k_rl_0, k_re_0, k_rs1, k_rs, k_rl, k_re, k_r0_l, k_r0_e, k_r0_i, k_r0_b, k_r0_s, k_r0_blob, k_r0_sl, k_r0_bs, k_r1_agg, k_r1_l, k_r1_e, k_r1_i, k_r1_b, k_r1_s, k_r1_sl, k_r1_bs, k_contL_bs, k_contB, k_r_l, k_r_sl, k_back0, k_back1, k_one1, k_one2, k_handX, k_rowX, k_ca, k_ca_ei, k_fin1, k_fin2, k_res_b, k_res_i, k_res_s, k_res_l, k_res_e, k_res_agg, k_res_sl, k_head, k_head0, k_headF, k_headOK, k_hc0, k_asR_e, k_asR_sl, k_sea_sl, getS, getO, gS, zipN, dropW, takeW, wds, stvs, sea, seaL, refs, refsL, refsEls, refsO, isPureEls, isPures, isPure, noExt, noExts, noExtEls, cellsL, ren, renL, renEls, keepO, keepS, keysO, refsS, refsOB, cntN, headC, setS, boxO, row, putW, putB, putB1, eNl, newOs, frz, renO, noExtO, zps, zp, two32, w64, -getElem?_pos]
  · have f1' : ¬ 200 < (xs.length : Int) := f1
    by_cases f2 : (ys.length : Int) > 200
    · have f2' : 200 < (ys.length : Int) := f2
      rw [← hlx] at f1 f1'
      rw [← hly] at f2 f2'
      generalize byL xs = a at *
      generalize byL ys = b at *
      generalize byL zs = c at *
      simp -implicitDefEqProofs (maxSteps := 1000000) (disch := first | omega | rfl) [m4, h15, f1, f1', f2, f2', k_g0, k_gs, k_bnd, k_bndO, k_br_t, k_br_f, k_br_u, k_agree, k_loop, k_add, k_sub, k_mul, k_lss, k_leq, k_gtr, k_geq, k_eql, k_neq, k_rem, k_quo, k_and, k_or, k_xor, k_shl, k_shr, k_seql, k_sneq, k_sadd, k_beql, k_bneq, k_not, k_neg, k_com, k_cv, k_pk, k_gd, k_gdt, k_gdO, k_gdOt, k_ext, k_fA, k_l1, k_l1b, k_l1q, k_l1qb, k_lN, k_lNq, k_atO, k_atE, k_aggO, k_takeO, k_blobAt, k_nthB, k_hd_i, k_hd_b, k_hd_s, k_hd_l, k_hd_e, k_hd_sl, k_rt_l, k_rt_i, k_rt_b, k_rt_s, k_rt_blob, k_st, k_stb, k_stX, k_stE, k_stD, k_stB, k_stG, k_stF, k_stP, k_stQ, k_puris0, k_puris, k_puriC, k_puri_i, k_puri_b, k_puri_l, k_c_agg, k_c_i, k_c_b, k_c_s, k_c_l, k_c_e, k_c_sl, k_c_p, k_sv_agg, k_sv_i, k_sv_b, k_sv_s, k_sv_l, k_sv_e, k_sv_sl, k_sc_i, k_sc_b, k_wd_i, k_wd_b, k_wd_s, k_wd_l, k_wd_e, k_wd_sl, k_wd_p, k_wd_blob, k_al, k_bx, k_new, k_len_l, k_len_e, k_len_sl, k_len_bs, k_lenS, k_cp_e, k_eNs_l, k_eNs_e, k_xS_l, k_xS_sl, k_xSO, k_elQ, k_xA, k_xAq, k_slc_l, k_slc_e, k_slc_sl, k_slL, k_slE, k_slO, k_opt0, k_opt1, k_map0, k_allW0, k_allW1, k_fe0, k_fe1, k_fs0, k_fs1, k_fl_i, k_fl_b, k_fl_l, k_ap, k_cont_l, k_cont_e, k_cont_s, k_cont_sl, k_contL_l, k_contL_e, k_contL_sl, k_contX, k_apC, k_apE_e, k_apE_sl, k_apO, k_apz, k_bldS0, k_bldS, k_bld, k_bldC0, k_bldC, k_eAr, k_b2s, k_b2sC, k_strO, k_ca0, k_ca0X, k_ca0R, k_reiN0, k_reiN1, k_rs1_0, k_rs_0, k_rl_0, k_re_0, k_rs1, k_rs, k_rl, k_re, k_r0_l, k_r0_e, k_r0_i, k_r0_b, k_r0_s, k_r0_blob, k_r0_sl, k_r0_bs, k_r1_agg, k_r1_l, k_r1_e, k_r1_i, k_r1_b, k_r1_s, k_r1_sl, k_r1_bs, k_contL_bs, k_contB, k_r_l, k_r_sl, k_back0, k_back1, k_one1, k_one2, k_handX, k_rowX, k_ca, k_ca_ei, k_fin1, k_fin2, k_res_b, k_res_i, k_res_s, k_res_l, k_res_e, k_res_agg, k_res_sl, k_head, k_head0, k_headF, k_headOK, k_hc0, k_asR_e, k_asR_sl, k_sea_sl, getS, getO, gS, zipN, dropW, takeW, wds, stvs, sea, seaL, refs, refsL, refsEls, refsO, isPureEls, isPures, isPure, noExt, noExts, noExtEls, cellsL, ren, renL, renEls, keepO, keepS, keysO, refsS, refsOB, cntN, headC, setS, boxO, row, putW, putB, putB1, eNl, newOs, frz, renO, noExtO, zps, zp, two32, w64, -getElem?_pos]
    · have f2' : ¬ 200 < (ys.length : Int) := f2
      by_cases f3 : (zs.length : Int) > 200
      · have f3' : 200 < (zs.length : Int) := f3
        rw [← hlx] at f1 f1'
        rw [← hly] at f2 f2'
        rw [← hlz] at f3 f3'
        generalize byL xs = a at *
        generalize byL ys = b at *
        generalize byL zs = c at *
        simp -implicitDefEqProofs (maxSteps := 1000000) (disch := first | omega | rfl) [m4, h15, f1, f1', f2, f2', f3, f3', k_g0, k_gs, k_bnd, k_bndO, k_br_t, k_br_f, k_br_u, k_agree, k_loop, k_add, k_sub, k_mul, k_lss, k_leq, k_gtr, k_geq, k_eql, k_neq, k_rem, k_quo, k_and, k_or, k_xor, k_shl, k_shr, k_seql, k_sneq, k_sadd, k_beql, k_bneq, k_not, k_neg, k_com, k_cv, k_pk, k_gd, k_gdt, k_gdO, k_gdOt, k_ext, k_fA, k_l1, k_l1b, k_l1q, k_l1qb, k_lN, k_lNq, k_atO, k_atE, k_aggO, k_takeO, k_blobAt, k_nthB, k_hd_i, k_hd_b, k_hd_s, k_hd_l, k_hd_e, k_hd_sl, k_rt_l, k_rt_i, k_rt_b, k_rt_s, k_rt_blob, k_st, k_stb, k_stX, k_stE, k_stD, k_stB, k_stG, k_stF, k_stP, k_stQ, k_puris0, k_puris, k_puriC, k_puri_i, k_puri_b, k_puri_l, k_c_agg, k_c_i, k_c_b, k_c_s, k_c_l, k_c_e, k_c_sl, k_c_p, k_sv_agg, k_sv_i, k_sv_b, k_sv_s, k_sv_l, k_sv_e, k_sv_sl, k_sc_i, k_sc_b, k_wd_i, k_wd_b, k_wd_s, k_wd_l, k_wd_e, k_wd_sl, k_wd_p, k_wd_blob, k_al, k_bx, k_new, k_len_l, k_len_e, k_len_sl, k_len_bs, k_lenS, k_cp_e, k_eNs_l, k_eNs_e, k_xS_l, k_xS_sl, k_xSO, k_elQ, k_xA, k_xAq, k_slc_l, k_slc_e, k_slc_sl, k_slL, k_slE, k_slO, k_opt0, k_opt1, k_map0, k_allW0, k_allW1, k_fe0, k_fe1, k_fs0, k_fs1, k_fl_i, k_fl_b, k_fl_l, k_ap, k_cont_l, k_cont_e, k_cont_s, k_cont_sl, k_contL_l, k_contL_e, k_contL_sl, k_contX, k_apC, k_apE_e, k_apE_sl, k_apO, k_apz, k_bldS0, k_bldS, k_bld, k_bldC0, k_bldC, k_eAr, k_b2s, k_b2sC, k_strO, k_ca0, k_ca0X, k_ca0R, k_reiN0, k_reiN1, k_rs1_0, k_rs_0, k_rl_0, k_re_0, k_rs1, k_rs, k_rl, k_re, k_r0_l, k_r0_e, k_r0_i, k_r0_b, k_r0_s, k_r0_blob, k_r0_sl, k_r0_bs, k_r1_agg, k_r1_l, k_r1_e, k_r1_i, k_r1_b, k_r1_s, k_r1_sl, k_r1_bs, k_contL_bs, k_contB, k_r_l, k_r_sl, k_back0, k_back1, k_one1, k_one2, k_handX, k_rowX, k_ca, k_ca_ei, k_fin1, k_fin2, k_res_b, k_res_i, k_res_s, k_res_l, k_res_e, k_res_agg, k_res_sl, k_head, k_head0, k_headF, k_headOK, k_hc0, k_asR_e, k_asR_sl, k_sea_sl, getS, getO, gS, zipN, dropW, takeW, wds, stvs, sea, seaL, refs, refsL, refsEls, refsO, isPureEls, isPures, isPure, noExt, noExts, noExtEls, cellsL, ren, renL, renEls, keepO, keepS, keysO, refsS, refsOB, cntN, headC, setS, boxO, row, putW, putB, putB1, eNl, newOs, frz, renO, noExtO, zps, zp, two32, w64, -getElem?_pos]
      · have f3' : ¬ 200 < (zs.length : Int) := f3
        have h21 := L21 1000 7
        have may_of : ∀ (ts : List Int), ts.length ≤ 600 → mayB (rounds nFirst ts).2.length ts.length = true := by
          intro ts h
          obtain ⟨l1, l2⟩ := rounds_len _ nFirst ts (Nat.le_refl _) rfl
          have : ((rounds nFirst ts).2.length : Int) = (ts.length : Int).tmod 64 := by
            rw [Int.tmod_eq_emod_of_nonneg (by omega), l2]; omega
          simp only [mayB, Bool.and_eq_true, decide_eq_true_eq, beq_iff_eq]
          exact ⟨by omega, by omega, this⟩
        have ha : sem tab 1000 8 19 [hashV nFirst false [] 0, .l false (byL xs)] [] = _ := L19 0 2 nFirst [] xs 0 rfl may_zero (by omega) (by simp; omega)
        rw [List.nil_append, Int.zero_add] at ha
        obtain ⟨l1, l2⟩ := rounds_len _ nFirst xs (Nat.le_refl _) rfl
        have f6 := may_of xs (by omega)
        have hn : sem tab 1000 8 19 [hashV (rounds nFirst xs).1 false (rounds nFirst xs).2 xs.length, .l false (byL [])] [] = _ := L19 0 2 _ _ [] _ l1 f6 (by simp; omega) (by rw [l2]; simp; omega)
        rw [List.append_nil, rounds_short (rs := (rounds nFirst xs).1) (xs := (rounds nFirst xs).2) (by rw [l2]; omega), List.length_nil, show ((0 : Nat) : Int) = 0 from rfl, Int.add_zero] at hn
        have h18 := L18 1000 7 (rounds nFirst xs).1 (rounds nFirst xs).2 xs.length
        have hb : sem tab 1000 8 19 [hashV (rounds nFirst xs).1 false (rounds nFirst xs).2 xs.length, .l false (byL ys)] [] = _ := L19 0 2 _ _ ys _ l1 f6 (by omega) (by rw [l2]; omega)
        rw [← rounds_app _ nFirst xs ys (Nat.le_refl _), show (xs.length : Int) + ys.length = (xs ++ ys).length by simp] at hb
        have f7 := may_of (xs ++ ys) (by simp; omega)
        obtain ⟨l3, l4⟩ := rounds_len _ nFirst (xs ++ ys) (Nat.le_refl _) rfl
        have hc : sem tab 1000 8 19 [hashV (rounds nFirst (xs ++ ys)).1 false (rounds nFirst (xs ++ ys)).2 (xs ++ ys).length, .l false (byL zs)] [] = _ := L19 0 2 _ _ zs _ l3 f7 (by simp only [List.length_append]; omega) (by rw [l4]; omega)
        rw [← rounds_app _ nFirst (xs ++ ys) zs (Nat.le_refl _), show ((xs ++ ys).length : Int) + zs.length = (xs ++ ys ++ zs).length by simp only [List.length_append]; omega] at hc
        obtain ⟨l5, l6⟩ := rounds_len _ nFirst (xs ++ ys ++ zs) (Nat.le_refl _) rfl
        have h24 : sem tab 1000 8 24 [hashV (rounds nFirst (xs ++ ys ++ zs)).1 false (rounds nFirst (xs ++ ys ++ zs)).2 (xs ++ ys ++ zs).length] [] = _ := L24 0 2 _ _ _ l5
        have h26 : sem tab 1000 8 26 [.l false (byL (xs ++ ys ++ zs))] [] = _ := L26 0 1 (xs ++ ys ++ zs) (by simp only [List.length_append]; omega)
        have he := eqIs_self .u8 (endI (rounds nFirst (xs ++ ys ++ zs)).1 (rounds nFirst (xs ++ ys ++ zs)).2 (xs ++ ys ++ zs).length)
        change eqIs (uL _) (uL _) = some true at he
        have hb0 : byL [] = [] := rfl
        rw [← byL_app, ← byL_app] at h26
        have fx := flat_by xs
        have wx := allW_by xs
        have fy := flat_by ys
        have wy := allW_by ys
        have fz := flat_by zs
        have wz := allW_by zs
        rw [← hlx] at f1 f1'
        rw [← hly] at f2 f2'
        rw [← hlz] at f3 f3'
        clear may_of l1 l2 l3 l4 l5 l6 f6 f7
        simp only [hashV_wL, hb0] at h21 ha hn hb hc h18 h24 h26 ⊢
        generalize uL (endI (rounds nFirst (xs ++ ys ++ zs)).1 (rounds nFirst (xs ++ ys ++ zs)).2 (xs ++ ys ++ zs).length) = o at *
        generalize byL (rounds nFirst (xs ++ ys ++ zs)).2 = q4 at *
        generalize wL (rounds nFirst (xs ++ ys ++ zs)).1 = r4 at *
        generalize byL (rounds nFirst (xs ++ ys)).2 = q3 at *
        generalize wL (rounds nFirst (xs ++ ys)).1 = r3 at *
        generalize byL (rounds nFirst xs).2 = q2 at *
        generalize wL (rounds nFirst xs).1 = r2 at *
        generalize ((xs ++ ys ++ zs).length : Int) = n4 at *
        generalize ((xs ++ ys).length : Int) = n3 at *
        generalize (xs.length : Int) = n2 at *
        generalize wL nFirst = r at *
        generalize byL xs = a at *
        generalize byL ys = b at *
        generalize byL zs = c at *
        generalize hz : List.replicate 8 (PV.i IntKind.u32 0) = zz at *
        clear hlx hly hlz
        have p1 : a.length ≤ 4294967296 := by omega
        have p2 : a.length + b.length ≤ 4294967296 := by omega
        have p2' : a.length + c.length ≤ 4294967296 := by omega
        have p3 : a.length + b.length + c.length ≤ 4294967296 := by omega
        have ht : List.take a.length a = a := List.take_length
        have ht2 : List.take (a.length + b.length) (a ++ b) = a ++ b := List.take_of_length_le (by simp)
        have ht2' : List.take (a.length + c.length) (a ++ c) = a ++ c := List.take_of_length_le (by simp)
        have ht3 : List.take (a.length + b.length + c.length) (a ++ b ++ c) = a ++ b ++ c := List.take_of_length_le (by simp [Nat.add_assoc])
        by_cases cb : b = []
        · subst cb
          have e := hn.symm.trans hb
          simp at e
          obtain ⟨e1, e2, e3⟩ := e
          subst e1 e2 e3
          clear hb
          by_cases cc : c = []
          · subst cc
            have e := hn.symm.trans hc
            simp at e
            obtain ⟨e1, e2, e3⟩ := e
            subst e1 e2 e3
            clear hc
            simp only [List.append_nil] at h26
            simp -implicitDefEqProofs (maxSteps := 1000000) (disch := first | omega | rfl) [m4, hz, h15, h21, ha, hn, h18, h24, h26, he, f1, f1', f2, f2', f3, f3', fx, wx, fy, wy, fz, wz, p1, ht, k_g0, k_gs, k_bnd, k_bndO, k_br_t, k_br_f, k_br_u, k_agree, k_loop, k_add, k_sub, k_mul, k_lss, k_leq, k_gtr, k_geq, k_eql, k_neq, k_rem, k_quo, k_and, k_or, k_xor, k_shl, k_shr, k_seql, k_sneq, k_sadd, k_beql, k_bneq, k_not, k_neg, k_com, k_cv, k_pk, k_gd, k_gdt, k_gdO, k_gdOt, k_ext, k_fA, k_l1, k_l1b, k_l1q, k_l1qb, k_lN, k_lNq, k_atO, k_atE, k_aggO, k_takeO, k_blobAt, k_nthB, k_hd_i, k_hd_b, k_hd_s, k_hd_l, k_hd_e, k_hd_sl, k_rt_l, k_rt_i, k_rt_b, k_rt_s, k_rt_blob, k_st, k_stb, k_stX, k_stE, k_stD, k_stB, k_stG, k_stF, k_stP, k_stQ, k_puris0, k_puris, k_puriC, k_puri_i, k_puri_b, k_puri_l, k_c_agg, k_c_i, k_c_b, k_c_s, k_c_l, k_c_e, k_c_sl, k_c_p, k_sv_agg, k_sv_i, k_sv_b, k_sv_s, k_sv_l, k_sv_e, k_sv_sl, k_sc_i, k_sc_b, k_wd_i, k_wd_b, k_wd_s, k_wd_l, k_wd_e, k_wd_sl, k_wd_p, k_wd_blob, k_al, k_bx, k_new, k_len_l, k_len_e, k_len_sl, k_len_bs, k_lenS, k_cp_e, k_eNs_l, k_eNs_e, k_xS_l, k_xS_sl, k_xSO, k_elQ, k_xA, k_xAq, k_slc_l, k_slc_e, k_slc_sl, k_slL, k_slE, k_slO, k_opt0, k_opt1, k_map0, k_allW0, k_allW1, k_fe0, k_fe1, k_fs0, k_fs1, k_fl_i, k_fl_b, k_fl_l, k_ap, k_cont_l, k_cont_e, k_cont_s, k_cont_sl, k_contL_l, k_contL_e, k_contL_sl, k_contX, k_apC, k_apE_e, k_apE_sl, k_apO, k_apz, k_bldS0, k_bldS, k_bld, k_bldC0, k_bldC, k_eAr, k_b2s, k_b2sC, k_strO, k_ca0, k_ca0X, k_ca0R, k_reiN0, k_reiN1, k_rs1_0, k_rs_0, k_rl_0, k_re_0, k_rs1, k_rs, k_rl, k_re, k_r0_l, k_r0_e, k_r0_i, k_r0_b, k_r0_s, k_r0_blob, k_r0_sl, k_r0_bs, k_r1_agg, k_r1_l, k_r1_e, k_r1_i, k_r1_b, k_r1_s, k_r1_sl, k_r1_bs, k_contL_bs, k_contB, k_r_l, k_r_sl, k_back0, k_back1, k_one1, k_one2, k_handX, k_rowX, k_ca, k_ca_ei, k_fin1, k_fin2, k_res_b, k_res_i, k_res_s, k_res_l, k_res_e, k_res_agg, k_res_sl, k_head, k_head0, k_headF, k_headOK, k_hc0, k_asR_e, k_asR_sl, k_sea_sl, getS, getO, gS, zipN, dropW, takeW, wds, stvs, sea, seaL, refs, refsL, refsEls, refsO, isPureEls, isPures, isPure, noExt, noExts, noExtEls, cellsL, ren, renL, renEls, keepO, keepS, keysO, refsS, refsOB, cntN, headC, setS, boxO, row, putW, putB, putB1, eNl, newOs, frz, renO, noExtO, zps, zp, two32, w64, -getElem?_pos]
          · simp only [List.append_nil] at h26
            have g1 : ¬ (a.length + c.length ≤ a.length) := by
              have := List.length_pos_iff.2 cc
              omega
            simp -implicitDefEqProofs (maxSteps := 1000000) (disch := first | omega | rfl) [m4, hz, h15, h21, ha, hn, hc, h18, h24, h26, he, f1, f1', f2, f2', f3, f3', fx, wx, fy, wy, fz, wz, p1, p2', g1, ht, ht2', cc, k_g0, k_gs, k_bnd, k_bndO, k_br_t, k_br_f, k_br_u, k_agree, k_loop, k_add, k_sub, k_mul, k_lss, k_leq, k_gtr, k_geq, k_eql, k_neq, k_rem, k_quo, k_and, k_or, k_xor, k_shl, k_shr, k_seql, k_sneq, k_sadd, k_beql, k_bneq, k_not, k_neg, k_com, k_cv, k_pk, k_gd, k_gdt, k_gdO, k_gdOt, k_ext, k_fA, k_l1, k_l1b, k_l1q, k_l1qb, k_lN, k_lNq, k_atO, k_atE, k_aggO, k_takeO, k_blobAt, k_nthB, k_hd_i, k_hd_b, k_hd_s, k_hd_l, k_hd_e, k_hd_sl, k_rt_l, k_rt_i, k_rt_b, k_rt_s, k_rt_blob, k_st, k_stb, k_stX, k_stE, k_stD, k_stB, k_stG, k_stF, k_stP, k_stQ, k_puris0, k_puris, k_puriC, k_puri_i, k_puri_b, k_puri_l, k_c_agg, k_c_i, k_c_b, k_c_s, k_c_l, k_c_e, k_c_sl, k_c_p, k_sv_agg, k_sv_i, k_sv_b, k_sv_s, k_sv_l, k_sv_e, k_sv_sl, k_sc_i, k_sc_b, k_wd_i, k_wd_b, k_wd_s, k_wd_l, k_wd_e, k_wd_sl, k_wd_p, k_wd_blob, k_al, k_bx, k_new, k_len_l, k_len_e, k_len_sl, k_len_bs, k_lenS, k_cp_e, k_eNs_l, k_eNs_e, k_xS_l, k_xS_sl, k_xSO, k_elQ, k_xA, k_xAq, k_slc_l, k_slc_e, k_slc_sl, k_slL, k_slE, k_slO, k_opt0, k_opt1, k_map0, k_allW0, k_allW1, k_fe0, k_fe1, k_fs0, k_fs1, k_fl_i, k_fl_b, k_fl_l, k_ap, k_cont_l, k_cont_e, k_cont_s, k_cont_sl, k_contL_l, k_contL_e, k_contL_sl, k_contX, k_apC, k_apE_e, k_apE_sl, k_apO, k_apz, k_bldS0, k_bldS, k_bld, k_bldC0, k_bldC, k_eAr, k_b2s, k_b2sC, k_strO, k_ca0, k_ca0X, k_ca0R, k_reiN0, k_reiN1, k_rs1_0, k_rs_0, k_rl_0, k_re_0, k_rs1, k_rs, k_rl, k_re, k_r0_l, k_r0_e, k_r0_i, k_r0_b, k_r0_s, k_r0_blob, k_r0_sl, k_r0_bs, k_r1_agg, k_r1_l, k_r1_e, k_r1_i, k_r1_b, k_r1_s, k_r1_sl, k_r1_bs, k_contL_bs, k_contB, k_r_l, k_r_sl, k_back0, k_back1, k_one1, k_one2, k_handX, k_rowX, k_ca, k_ca_ei, k_fin1, k_fin2, k_res_b, k_res_i, k_res_s, k_res_l, k_res_e, k_res_agg, k_res_sl, k_head, k_head0, k_headF, k_headOK, k_hc0, k_asR_e, k_asR_sl, k_sea_sl, getS, getO, gS, zipN, dropW, takeW, wds, stvs, sea, seaL, refs, refsL, refsEls, refsO, isPureEls, isPures, isPure, noExt, noExts, noExtEls, cellsL, ren, renL, renEls, keepO, keepS, keysO, refsS, refsOB, cntN, headC, setS, boxO, row, putW, putB, putB1, eNl, newOs, frz, renO, noExtO, zps, zp, two32, w64, -getElem?_pos]
        · have g1 : ¬ (a.length + b.length ≤ a.length) := by
            have := List.length_pos_iff.2 cb
            omega
          by_cases cc : c = []
          · subst cc
            simp only [List.append_nil] at h26
            simp -implicitDefEqProofs (maxSteps := 1000000) (disch := first | omega | rfl) [m4, hz, h15, h21, ha, hn, hb, hc, h18, h24, h26, he, f1, f1', f2, f2', f3, f3', fx, wx, fy, wy, fz, wz, p1, p2, g1, ht, ht2, cb, k_g0, k_gs, k_bnd, k_bndO, k_br_t, k_br_f, k_br_u, k_agree, k_loop, k_add, k_sub, k_mul, k_lss, k_leq, k_gtr, k_geq, k_eql, k_neq, k_rem, k_quo, k_and, k_or, k_xor, k_shl, k_shr, k_seql, k_sneq, k_sadd, k_beql, k_bneq, k_not, k_neg, k_com, k_cv, k_pk, k_gd, k_gdt, k_gdO, k_gdOt, k_ext, k_fA, k_l1, k_l1b, k_l1q, k_l1qb, k_lN, k_lNq, k_atO, k_atE, k_aggO, k_takeO, k_blobAt, k_nthB, k_hd_i, k_hd_b, k_hd_s, k_hd_l, k_hd_e, k_hd_sl, k_rt_l, k_rt_i, k_rt_b, k_rt_s, k_rt_blob, k_st, k_stb, k_stX, k_stE, k_stD, k_stB, k_stG, k_stF, k_stP, k_stQ, k_puris0, k_puris, k_puriC, k_puri_i, k_puri_b, k_puri_l, k_c_agg, k_c_i, k_c_b, k_c_s, k_c_l, k_c_e, k_c_sl, k_c_p, k_sv_agg, k_sv_i, k_sv_b, k_sv_s, k_sv_l, k_sv_e, k_sv_sl, k_sc_i, k_sc_b, k_wd_i, k_wd_b, k_wd_s, k_wd_l, k_wd_e, k_wd_sl, k_wd_p, k_wd_blob, k_al, k_bx, k_new, k_len_l, k_len_e, k_len_sl, k_len_bs, k_lenS, k_cp_e, k_eNs_l, k_eNs_e, k_xS_l, k_xS_sl, k_xSO, k_elQ, k_xA, k_xAq, k_slc_l, k_slc_e, k_slc_sl, k_slL, k_slE, k_slO, k_opt0, k_opt1, k_map0, k_allW0, k_allW1, k_fe0, k_fe1, k_fs0, k_fs1, k_fl_i, k_fl_b, k_fl_l, k_ap, k_cont_l, k_cont_e, k_cont_s, k_cont_sl, k_contL_l, k_contL_e, k_contL_sl, k_contX, k_apC, k_apE_e, k_apE_sl, k_apO, k_apz, k_bldS0, k_bldS, k_bld, k_bldC0, k_bldC, k_eAr, k_b2s, k_b2sC, k_strO, k_ca0, k_ca0X, k_ca0R, k_reiN0, k_reiN1, k_rs1_0, k_rs_0, k_rl_0, k_re_0, k_rs1, k_rs, k_rl, k_re, k_r0_l, k_r0_e, k_r0_i, k_r0_b, k_r0_s, k_r0_blob, k_r0_sl, k_r0_bs, k_r1_agg, k_r1_l, k_r1_e, k_r1_i, k_r1_b, k_r1_s, k_r1_sl, k_r1_bs, k_contL_bs, k_contB, k_r_l, k_r_sl, k_back0, k_back1, k_one1, k_one2, k_handX, k_rowX, k_ca, k_ca_ei, k_fin1, k_fin2, k_res_b, k_res_i, k_res_s, k_res_l, k_res_e, k_res_agg, k_res_sl, k_head, k_head0, k_headF, k_headOK, k_hc0, k_asR_e, k_asR_sl, k_sea_sl, getS, getO, gS, zipN, dropW, takeW, wds, stvs, sea, seaL, refs, refsL, refsEls, refsO, isPureEls, isPures, isPure, noExt, noExts, noExtEls, cellsL, ren, renL, renEls, keepO, keepS, keysO, refsS, refsOB, cntN, headC, setS, boxO, row, putW, putB, putB1, eNl, newOs, frz, renO, noExtO, zps, zp, two32, w64, -getElem?_pos]
          · have g2 : ¬ (a.length + b.length + c.length ≤ a.length + b.length) := by
              have := List.length_pos_iff.2 cc
              omega
            simp only [List.append_assoc] at h26 ht3
            have g3 : a.length + b.length + c.length ≤ a.length + (b.length + c.length) := by omega
            simp -implicitDefEqProofs (maxSteps := 1000000) (disch := first | omega | rfl) [m4, hz, h15, h21, ha, hn, hb, hc, h18, h24, h26, he, f1, f1', f2, f2', f3, f3', fx, wx, fy, wy, fz, wz, p1, p2, p3, g1, g2, g3, ht, ht2, ht3, cb, cc, k_g0, k_gs, k_bnd, k_bndO, k_br_t, k_br_f, k_br_u, k_agree, k_loop, k_add, k_sub, k_mul, k_lss, k_leq, k_gtr, k_geq, k_eql, k_neq, k_rem, k_quo, k_and, k_or, k_xor, k_shl, k_shr, k_seql, k_sneq, k_sadd, k_beql, k_bneq, k_not, k_neg, k_com, k_cv, k_pk, k_gd, k_gdt, k_gdO, k_gdOt, k_ext, k_fA, k_l1, k_l1b, k_l1q, k_l1qb, k_lN, k_lNq, k_atO, k_atE, k_aggO, k_takeO, k_blobAt, k_nthB, k_hd_i, k_hd_b, k_hd_s, k_hd_l, k_hd_e, k_hd_sl, k_rt_l, k_rt_i, k_rt_b, k_rt_s, k_rt_blob, k_st, k_stb, k_stX, k_stE, k_stD, k_stB, k_stG, k_stF, k_stP, k_stQ, k_puris0, k_puris, k_puriC, k_puri_i, k_puri_b, k_puri_l, k_c_agg, k_c_i, k_c_b, k_c_s, k_c_l, k_c_e, k_c_sl, k_c_p, k_sv_agg, k_sv_i, k_sv_b, k_sv_s, k_sv_l, k_sv_e, k_sv_sl, k_sc_i, k_sc_b, k_wd_i, k_wd_b, k_wd_s, k_wd_l, k_wd_e, k_wd_sl, k_wd_p, k_wd_blob, k_al, k_bx, k_new, k_len_l, k_len_e, k_len_sl, k_len_bs, k_lenS, k_cp_e, k_eNs_l, k_eNs_e, k_xS_l, k_xS_sl, k_xSO, k_elQ, k_xA, k_xAq, k_slc_l, k_slc_e, k_slc_sl, k_slL, k_slE, k_slO, k_opt0, k_opt1, k_map0, k_allW0, k_allW1, k_fe0, k_fe1, k_fs0, k_fs1, k_fl_i, k_fl_b, k_fl_l, k_ap, k_cont_l, k_cont_e, k_cont_s, k_cont_sl, k_contL_l, k_contL_e, k_contL_sl, k_contX, k_apC, k_apE_e, k_apE_sl, k_apO, k_apz, k_bldS0, k_bldS, k_bld, k_bldC0, k_bldC, k_eAr, k_b2s, k_b2sC, k_strO, k_ca0, k_ca0X, k_ca0R, k_reiN0, k_reiN1, k_rs1_0, k_rs_0, k_rl_0, k_re_0, k_rs1, k_rs, k_rl, k_re, k_r0_l, k_r0_e, k_r0_i, k_r0_b, k_r0_s, k_r0_blob, k_r0_sl, k_r0_bs, k_r1_agg, k_r1_l, k_r1_e, k_r1_i, k_r1_b, k_r1_s, k_r1_sl, k_r1_bs, k_contL_bs, k_contB, k_r_l, k_r_sl, k_back0, k_back1, k_one1, k_one2, k_handX, k_rowX, k_ca, k_ca_ei, k_fin1, k_fin2, k_res_b, k_res_i, k_res_s, k_res_l, k_res_e, k_res_agg, k_res_sl, k_head, k_head0, k_headF, k_headOK, k_hc0, k_asR_e, k_asR_sl, k_sea_sl, getS, getO, gS, zipN, dropW, takeW, wds, stvs, sea, seaL, refs, refsL, refsEls, refsO, isPureEls, isPures, isPure, noExt, noExts, noExtEls, cellsL, ren, renL, renEls, keepO, keepS, keysO, refsS, refsOB, cntN, headC, setS, boxO, row, putW, putB, putB1, eNl, newOs, frz, renO, noExtO, zps, zp, two32, w64, -getElem?_pos]
theorem Pure.ShaParts (us : List PV) (h : TyAll Tryd.prog 8 [24, 24, 24] us) : ∃ N d out, sem tab N d 4 us [] = some (.b true, out) := by
  obtain ⟨v, r, rfl, h1, v2, r2, rfl, h2, v3, r3, rfl, h3, rfl⟩ := h
  obtain ⟨xs, hx, rfl⟩ := bytes_of h1
  obtain ⟨ys, hy, rfl⟩ := bytes_of h2
  obtain ⟨zs, hz, rfl⟩ := bytes_of h3
  obtain ⟨out, h⟩ := parts_law xs ys zs
  exact ⟨1000, 9, out, h⟩
end Go.Proofs.YtbobbkgdbfcblaaDoor
