/- The sum is what the document says: the plain law. -/
import Derived.Test.YtbobbkgdbfcblaaDoorPureRef
import Derived.Test.YtbobbkgdbfcblaaDoorPureTV
import Derived.Test.YtbobbkgdbfcblaaDoorAwakeT
set_option linter.all false
set_option linter.unusedSimpArgs false
set_option linter.unusedVariables false
namespace Go.Proofs.YtbobbkgdbfcblaaDoor
open Go
theorem nFirst_range : ∀ y ∈ nFirst, 0 ≤ y ∧ y < 4294967296 := by decide
theorem rounds_rest : ∀ (n : Nat) (rs xs : List Int), xs.length ≤ n → (∀ n ∈ xs, 0 ≤ n ∧ n ≤ 255) → ∀ y ∈ (rounds rs xs).2, 0 ≤ y ∧ y ≤ 255 := by
  intro n
  induction n with
  | zero =>
    intro rs xs h hb
    rw [rounds_short (by omega)]; exact hb
  | succ n ih =>
    intro rs xs h hb
    by_cases hx : xs.length < 64
    · rw [rounds_short hx]; exact hb
    · rw [rounds_long hx]
      exact ih _ _ (by simp; omega) (fun n hn => hb n (List.mem_of_mem_drop hn))
set_option maxHeartbeats 4000000 in
/-- The document's sum of bytes. -/
theorem L27 (M d : Nat) (ys : List Int) (h : ys.length ≤ 57600) (hb : ∀ n ∈ ys, 0 ≤ n ∧ n ≤ 255) : sem tab (M + 1000) (d + 5) 27 [.l false (byL ys)] [] = some (.agg [.blob 32 (uL (endI (rounds nFirst ys).1 (rounds nFirst ys).2 ys.length))], []) := by
  rw [sem_succ tab (M + 1000) (d + 4) 27 m27 rfl]
  have h22 := L22 (M + 1000) (d + 3)
  have h20 := L20 M d nFirst [] ys 0 rfl may_zero (by omega) (by simpa using h) (by simp) hb
  rw [List.nil_append, Int.zero_add] at h20
  have hb2 : ∀ n ∈ (rounds nFirst ys).2, 0 ≤ n ∧ n ≤ 255 := rounds_rest _ nFirst ys (Nat.le_refl _) hb
  have h25 := L25 M d (rounds nFirst ys).1 (rounds nFirst ys).2 ys.length (rounds_len _ nFirst ys (Nat.le_refl _) rfl).1 (rounds_range _ nFirst ys (Nat.le_refl _) rfl nFirst_range hb) hb2
  have hy := byL_len ys
  have hb : byL [] = [] := rfl
  rw [← hy] at h h20 h25 ⊢
  have n1 : ¬ ((byL ys).length : Int) > 1048576 := by omega
  have n2 : ¬ 1048576 < ((byL ys).length : Int) := by omega
  simp only [hashV_wL, hb] at h22 h20 h25 ⊢
  generalize byL (rounds nFirst ys).2 = q at *
  generalize wL (rounds nFirst ys).1 = r2 at *
  generalize wL nFirst = r at *
  generalize uL (endI _ _ _) = o at *
  generalize byL ys = b at *
  generalize hz : List.replicate 32 (PV.i IntKind.u8 0) = zz at *
  simp -implicitDefEqProofs (maxSteps := 1000000) (disch := first | omega | rfl) [m27, hz, h22, h20, h25, n1, n2, k_g0, k_gs, k_bnd, k_bndO, k_br_t, k_br_f, k_br_u, k_agree, k_loop, k_add, k_sub, k_mul, k_lss, k_leq, k_gtr, k_geq, k_eql, k_neq, k_rem, k_quo, k_and, k_or, k_xor, k_shl, k_shr, k_seql, k_sneq, k_sadd, k_beql, k_bneq, k_not, k_neg, k_com, k_cv, k_pk, k_gd, k_gdt, k_gdO, k_gdOt, k_ext, k_fA, k_l1, k_l1b, k_l1q, k_l1qb, k_lN, k_lNq, k_atO, k_atE, k_aggO, k_takeO, k_blobAt, k_nthB, k_hd_i, k_hd_b, k_hd_s, k_hd_l, k_hd_e, k_hd_sl, k_rt_l, k_rt_i, k_rt_b, k_rt_s, k_rt_blob, k_st, k_stb, k_stX, k_stE, k_stD, k_stB, k_stG, k_stF, k_stP, k_stQ, k_puris0, k_puris, k_puriC, k_puri_i, k_puri_b, k_puri_l, k_c_agg, k_c_i, k_c_b, k_c_s, k_c_l, k_c_e, k_c_sl, k_c_p, k_sv_agg, k_sv_i, k_sv_b, k_sv_s, k_sv_l, k_sv_e, k_sv_sl, k_sc_i, k_sc_b, k_wd_i, k_wd_b, k_wd_s, k_wd_l, k_wd_e, k_wd_sl, k_wd_p, k_wd_blob, k_al, k_bx, k_new, k_len_l, k_len_e, k_len_sl, k_len_bs, k_lenS, k_cp_e, k_eNs_l, k_eNs_e, k_xS_l, k_xS_sl, k_xSO, k_elQ, k_xA, k_xAq, k_slc_l, k_slc_e, k_slc_sl, k_slL, k_slE, k_slO, k_opt0, k_opt1, k_map0, k_allW0, k_allW1, k_fe0, k_fe1, k_fs0, k_fs1, k_fl_i, k_fl_b, k_fl_l, k_ap, k_cont_l, k_cont_e, k_cont_s, k_cont_sl, k_contL_l, k_contL_e, k_contL_sl, k_contX, k_apC, k_apE_e, k_apE_sl, k_apO, k_apz, k_bldS0, k_bldS, k_bld, k_bldC0, k_bldC, k_eAr, k_b2s, k_b2sC, k_strO, k_ca0, k_ca0X, k_ca0R, k_reiN0, k_reiN1, k_rs1_0, k_rs_0, k_rl_0, k_re_0, k_rs1, k_rs, k_rl, k_re, k_r0_l, k_r0_e, k_r0_i, k_r0_b, k_r0_s, k_r0_blob, k_r0_sl, k_r0_bs, k_r1_agg, k_r1_l, k_r1_e, k_r1_i, k_r1_b, k_r1_s, k_r1_sl, k_r1_bs, k_contL_bs, k_contB, k_r_l, k_r_sl, k_back0, k_back1, k_one1, k_one2, k_handX, k_rowX, k_ca, k_ca_ei, k_fin1, k_fin2, k_res_b, k_res_i, k_res_s, k_res_l, k_res_e, k_res_agg, k_res_sl, k_head, k_head0, k_headF, k_headOK, k_hc0, k_asR_e, k_asR_sl, k_sea_sl, getS, getO, gS, zipN, dropW, takeW, wds, stvs, sea, seaL, refs, refsL, refsEls, refsO, isPureEls, isPures, isPure, noExt, noExts, noExtEls, cellsL, ren, renL, renEls, keepO, keepS, keysO, refsS, refsOB, cntN, headC, setS, boxO, row, putW, putB, putB1, eNl, newOs, frz, renO, noExtO, zps, zp, two32, w64, -getElem?_pos]
theorem u32_of {n : Int} (h : (Lit.int .u32 n).wf = true) : 0 ≤ n ∧ n < 4294967296 := by
  simp [Lit.wf, IntKind.min, IntKind.max, IntKind.signed, IntKind.bits] at h
  omega
theorem eqU_self (o : List Int) : eqIs (uL o) (uL o) = some true := eqIs_self .u8 o
set_option maxHeartbeats 8000000 in
theorem tells_law (ns xs ys : List Int) (L : Int) (hn : ns.length = 8) (hr : ∀ y ∈ ns, 0 ≤ y ∧ y < 4294967296) (hbx : ∀ n ∈ xs, 0 ≤ n ∧ n ≤ 255) (hby : ∀ n ∈ ys, 0 ≤ n ∧ n ≤ 255) : ∃ out, sem tab 1000 9 3 [hashV ns false xs L, .l false (byL ys)] [] = some (.b true, out) := by
  rw [sem_succ tab 1000 8 3 m3 rfl]
  have h15 := awake1
  have h16 := L16 1000 7 ns xs L
  have hlx := byL_len xs
  have hly := byL_len ys
  by_cases f1 : (xs.length : Int) ≤ 100
  · by_cases f2 : (ys.length : Int) > 400
    · have f2' : 400 < (ys.length : Int) := f2
      rw [← hlx] at f1 h16
      rw [← hly] at f2 f2'
      simp only [hashV_wL] at h16 ⊢
      generalize byL xs = a at *
      generalize byL ys = b at *
      generalize wL ns = r at *
      simp -implicitDefEqProofs (maxSteps := 1000000) (disch := first | omega | rfl) [m3, h15, h16, f1, f2, f2', k_g0, k_gs, k_bnd, k_bndO, k_br_t, k_br_f, k_br_u, k_agree, k_loop, k_add, k_sub, k_mul, k_lss, k_leq, k_gtr, k_geq, k_eql, k_neq, k_rem, k_quo, k_and, k_or, k_xor, k_shl, k_shr, k_seql, k_sneq, k_sadd, k_beql, k_bneq, k_not, k_neg, k_com, k_cv, k_pk, k_gd, k_gdt, k_gdO, k_gdOt, k_ext, k_fA, k_l1, k_l1b, k_l1q, k_l1qb, k_lN, k_lNq, k_atO, k_atE, k_aggO, k_takeO, k_blobAt, k_nthB, k_hd_i, k_hd_b, k_hd_s, k_hd_l, k_hd_e, k_hd_sl, k_rt_l, k_rt_i, k_rt_b, k_rt_s, k_rt_blob, k_st, k_stb, k_stX, k_stE, k_stD, k_stB, k_stG, k_stF, k_stP, k_stQ, k_puris0, k_puris, k_puriC, k_puri_i, k_puri_b, k_puri_l, k_c_agg, k_c_i, k_c_b, k_c_s, k_c_l, k_c_e, k_c_sl, k_c_p, k_sv_agg, k_sv_i, k_sv_b, k_sv_s, k_sv_l, k_sv_e, k_sv_sl, k_sc_i, k_sc_b, k_wd_i, k_wd_b, k_wd_s, k_wd_l, k_wd_e, k_wd_sl, k_wd_p, k_wd_blob, k_al, k_bx, k_new, k_len_l, k_len_e, k_len_sl, k_len_bs, k_lenS, k_cp_e, k_eNs_l, k_eNs_e, k_xS_l, k_xS_sl, k_xSO, k_elQ, k_xA, k_xAq, k_slc_l, k_slc_e, k_slc_sl, k_slL, k_slE, k_slO, k_opt0, k_opt1, k_map0, k_allW0, k_allW1, k_fe0, k_fe1, k_fs0, k_fs1, k_fl_i, k_fl_b, k_fl_l, k_ap, k_cont_l, k_cont_e, k_cont_s, k_cont_sl, k_contL_l, k_contL_e, k_contL_sl, k_contX, k_apC, k_apE_e, k_apE_sl, k_apO, k_apz, k_bldS0, k_bldS, k_bld, k_bldC0, k_bldC, k_eAr, k_b2s, k_b2sC, k_strO, k_ca0, k_ca0X, k_ca0R, k_reiN0, k_reiN1, k_rs1_0, k_rs_0, k_rl_0, k_re_0, k_rs1, k_rs, k_rl, k_re, k_r0_l, k_r0_e, k_r0_i, k_r0_b, k_r0_s, k_r0_blob, k_r0_sl, k_r0_bs, k_r1_agg, k_r1_l, k_r1_e, k_r1_i, k_r1_b, k_r1_s, k_r1_sl, k_r1_bs, k_contL_bs, k_contB, k_r_l, k_r_sl, k_back0, k_back1, k_one1, k_one2, k_handX, k_rowX, k_ca, k_ca_ei, k_fin1, k_fin2, k_res_b, k_res_i, k_res_s, k_res_l, k_res_e, k_res_agg, k_res_sl, k_head, k_head0, k_headF, k_headOK, k_hc0, k_asR_e, k_asR_sl, k_sea_sl, getS, getO, gS, zipN, dropW, takeW, wds, stvs, sea, seaL, refs, refsL, refsEls, refsO, isPureEls, isPures, isPure, noExt, noExts, noExtEls, cellsL, ren, renL, renEls, keepO, keepS, keysO, refsS, refsOB, cntN, headC, setS, boxO, row, putW, putB, putB1, eNl, newOs, frz, renO, noExtO, zps, zp, two32, w64, -getElem?_pos]
    · have f2' : ¬ (400 < (ys.length : Int)) := f2
      have h17 := L17 1000 7 ns xs L
      have h23 := L23 1000 7 ns xs L
      have h21 := L21 1000 7
      have h22 := L22 1000 7
      obtain ⟨ns2, xs2, L2, h19, h20⟩ : ∃ ns2 xs2 L2, sem tab 1000 8 19 [hashV ns false xs L, .l false (byL ys)] [] = some (hashV ns2 true xs2 L2, []) ∧ sem tab 1000 8 20 [hashV ns false xs L, .l false (byL ys)] [] = some (hashV ns2 true xs2 L2, []) := by
        by_cases hm : mayB xs.length L = true
        · by_cases hL : (ys.length : Int) ≤ 1048576 - L
          · exact ⟨_, _, _, L19 0 2 ns xs ys L hn hm hL (by omega), L20 0 4 ns xs ys L hn hm hL (by omega) hbx hby⟩
          · exact ⟨_, _, _, L19z 0 2 ns xs ys L (.inr ⟨hm, hL⟩), L20z 0 4 ns xs ys L (.inr ⟨hm, hL⟩)⟩
        · have hm : mayB xs.length L = false := by simpa using hm
          exact ⟨_, _, _, L19z 0 2 ns xs ys L (.inl hm), L20z 0 4 ns xs ys L (.inl hm)⟩
      have h18a := L18 1000 7 ns2 xs2 L2
      have h18b := L18 1000 7 nFirst [] 0
      have h24 : sem tab 1000 8 24 [hashV ns false xs L] [] = _ := L24 0 2 ns xs L hn
      have h25 : sem tab 1000 8 25 [hashV ns false xs L] [] = _ := L25 0 4 ns xs L hn hr hbx
      have h26 : sem tab 1000 8 26 [.l false (byL ys)] [] = _ := L26 0 1 ys (by omega)
      have h27 : sem tab 1000 8 27 [.l false (byL ys)] [] = _ := L27 0 3 ys (by omega) hby
      have e1 := eqU_self (endI ns xs L)
      have e2 := eqU_self (endI (rounds nFirst ys).1 (rounds nFirst ys).2 ys.length)
      generalize mayB xs.length L = D at *
      have hb0 : byL [] = [] := rfl
      rw [← hlx] at f1 h16
      rw [← hly] at f2 f2'
      simp only [hashV_wL, hb0] at h16 h17 h23 h21 h22 h19 h20 h18a h18b h24 h25 ⊢
      generalize uL (endI (rounds nFirst ys).1 (rounds nFirst ys).2 ys.length) = o2 at *
      generalize uL (endI ns xs L) = o1 at *
      generalize byL xs2 = q2 at *
      generalize wL ns2 = r2 at *
      generalize wL nFirst = r0 at *
      generalize byL xs = a at *
      generalize byL ys = b at *
      generalize wL ns = r at *
      simp -implicitDefEqProofs (maxSteps := 1000000) (disch := first | omega | rfl) [m3, h15, h16, h17, h23, h21, h22, h19, h20, h18a, h18b, h24, h25, h26, h27, e1, e2, f1, f2, f2', k_g0, k_gs, k_bnd, k_bndO, k_br_t, k_br_f, k_br_u, k_agree, k_loop, k_add, k_sub, k_mul, k_lss, k_leq, k_gtr, k_geq, k_eql, k_neq, k_rem, k_quo, k_and, k_or, k_xor, k_shl, k_shr, k_seql, k_sneq, k_sadd, k_beql, k_bneq, k_not, k_neg, k_com, k_cv, k_pk, k_gd, k_gdt, k_gdO, k_gdOt, k_ext, k_fA, k_l1, k_l1b, k_l1q, k_l1qb, k_lN, k_lNq, k_atO, k_atE, k_aggO, k_takeO, k_blobAt, k_nthB, k_hd_i, k_hd_b, k_hd_s, k_hd_l, k_hd_e, k_hd_sl, k_rt_l, k_rt_i, k_rt_b, k_rt_s, k_rt_blob, k_st, k_stb, k_stX, k_stE, k_stD, k_stB, k_stG, k_stF, k_stP, k_stQ, k_puris0, k_puris, k_puriC, k_puri_i, k_puri_b, k_puri_l, k_c_agg, k_c_i, k_c_b, k_c_s, k_c_l, k_c_e, k_c_sl, k_c_p, k_sv_agg, k_sv_i, k_sv_b, k_sv_s, k_sv_l, k_sv_e, k_sv_sl, k_sc_i, k_sc_b, k_wd_i, k_wd_b, k_wd_s, k_wd_l, k_wd_e, k_wd_sl, k_wd_p, k_wd_blob, k_al, k_bx, k_new, k_len_l, k_len_e, k_len_sl, k_len_bs, k_lenS, k_cp_e, k_eNs_l, k_eNs_e, k_xS_l, k_xS_sl, k_xSO, k_elQ, k_xA, k_xAq, k_slc_l, k_slc_e, k_slc_sl, k_slL, k_slE, k_slO, k_opt0, k_opt1, k_map0, k_allW0, k_allW1, k_fe0, k_fe1, k_fs0, k_fs1, k_fl_i, k_fl_b, k_fl_l, k_ap, k_cont_l, k_cont_e, k_cont_s, k_cont_sl, k_contL_l, k_contL_e, k_contL_sl, k_contX, k_apC, k_apE_e, k_apE_sl, k_apO, k_apz, k_bldS0, k_bldS, k_bld, k_bldC0, k_bldC, k_eAr, k_b2s, k_b2sC, k_strO, k_ca0, k_ca0X, k_ca0R, k_reiN0, k_reiN1, k_rs1_0, k_rs_0, k_rl_0, k_re_0, k_rs1, k_rs, k_rl, k_re, k_r0_l, k_r0_e, k_r0_i, k_r0_b, k_r0_s, k_r0_blob, k_r0_sl, k_r0_bs, k_r1_agg, k_r1_l, k_r1_e, k_r1_i, k_r1_b, k_r1_s, k_r1_sl, k_r1_bs, k_contL_bs, k_contB, k_r_l, k_r_sl, k_back0, k_back1, k_one1, k_one2, k_handX, k_rowX, k_ca, k_ca_ei, k_fin1, k_fin2, k_res_b, k_res_i, k_res_s, k_res_l, k_res_e, k_res_agg, k_res_sl, k_head, k_head0, k_headF, k_headOK, k_hc0, k_asR_e, k_asR_sl, k_sea_sl, getS, getO, gS, zipN, dropW, takeW, wds, stvs, sea, seaL, refs, refsL, refsEls, refsO, isPureEls, isPures, isPure, noExt, noExts, noExtEls, cellsL, ren, renL, renEls, keepO, keepS, keysO, refsS, refsOB, cntN, headC, setS, boxO, row, putW, putB, putB1, eNl, newOs, frz, renO, noExtO, zps, zp, two32, w64, -getElem?_pos]
  · rw [← hlx] at f1 h16
    simp only [hashV_wL] at h16 ⊢
    generalize byL xs = a at *
    generalize byL ys = b at *
    generalize wL ns = r at *
    simp -implicitDefEqProofs (maxSteps := 1000000) (disch := first | omega | rfl) [m3, h15, h16, f1, k_g0, k_gs, k_bnd, k_bndO, k_br_t, k_br_f, k_br_u, k_agree, k_loop, k_add, k_sub, k_mul, k_lss, k_leq, k_gtr, k_geq, k_eql, k_neq, k_rem, k_quo, k_and, k_or, k_xor, k_shl, k_shr, k_seql, k_sneq, k_sadd, k_beql, k_bneq, k_not, k_neg, k_com, k_cv, k_pk, k_gd, k_gdt, k_gdO, k_gdOt, k_ext, k_fA, k_l1, k_l1b, k_l1q, k_l1qb, k_lN, k_lNq, k_atO, k_atE, k_aggO, k_takeO, k_blobAt, k_nthB, k_hd_i, k_hd_b, k_hd_s, k_hd_l, k_hd_e, k_hd_sl, k_rt_l, k_rt_i, k_rt_b, k_rt_s, k_rt_blob, k_st, k_stb, k_stX, k_stE, k_stD, k_stB, k_stG, k_stF, k_stP, k_stQ, k_puris0, k_puris, k_puriC, k_puri_i, k_puri_b, k_puri_l, k_c_agg, k_c_i, k_c_b, k_c_s, k_c_l, k_c_e, k_c_sl, k_c_p, k_sv_agg, k_sv_i, k_sv_b, k_sv_s, k_sv_l, k_sv_e, k_sv_sl, k_sc_i, k_sc_b, k_wd_i, k_wd_b, k_wd_s, k_wd_l, k_wd_e, k_wd_sl, k_wd_p, k_wd_blob, k_al, k_bx, k_new, k_len_l, k_len_e, k_len_sl, k_len_bs, k_lenS, k_cp_e, k_eNs_l, k_eNs_e, k_xS_l, k_xS_sl, k_xSO, k_elQ, k_xA, k_xAq, k_slc_l, k_slc_e, k_slc_sl, k_slL, k_slE, k_slO, k_opt0, k_opt1, k_map0, k_allW0, k_allW1, k_fe0, k_fe1, k_fs0, k_fs1, k_fl_i, k_fl_b, k_fl_l, k_ap, k_cont_l, k_cont_e, k_cont_s, k_cont_sl, k_contL_l, k_contL_e, k_contL_sl, k_contX, k_apC, k_apE_e, k_apE_sl, k_apO, k_apz, k_bldS0, k_bldS, k_bld, k_bldC0, k_bldC, k_eAr, k_b2s, k_b2sC, k_strO, k_ca0, k_ca0X, k_ca0R, k_reiN0, k_reiN1, k_rs1_0, k_rs_0, k_rl_0, k_re_0, k_rs1, k_rs, k_rl, k_re, k_r0_l, k_r0_e, k_r0_i, k_r0_b, k_r0_s, k_r0_blob, k_r0_sl, k_r0_bs, k_r1_agg, k_r1_l, k_r1_e, k_r1_i, k_r1_b, k_r1_s, k_r1_sl, k_r1_bs, k_contL_bs, k_contB, k_r_l, k_r_sl, k_back0, k_back1, k_one1, k_one2, k_handX, k_rowX, k_ca, k_ca_ei, k_fin1, k_fin2, k_res_b, k_res_i, k_res_s, k_res_l, k_res_e, k_res_agg, k_res_sl, k_head, k_head0, k_headF, k_headOK, k_hc0, k_asR_e, k_asR_sl, k_sea_sl, getS, getO, gS, zipN, dropW, takeW, wds, stvs, sea, seaL, refs, refsL, refsEls, refsO, isPureEls, isPures, isPure, noExt, noExts, noExtEls, cellsL, ren, renL, renEls, keepO, keepS, keysO, refsS, refsOB, cntN, headC, setS, boxO, row, putW, putB, putB1, eNl, newOs, frz, renO, noExtO, zps, zp, two32, w64, -getElem?_pos]
theorem Pure.ShaTells (us : List PV) (h : TyAll Tryd.prog 8 [26, 24] us) : ∃ N d out, sem tab N d 3 us [] = some (.b true, out) := by
  obtain ⟨v, r, rfl, h1, v2, r2, rfl, h2, rfl⟩ := h
  obtain ⟨ns, xs, L, hn, hr, hx, hL, rfl⟩ := hash_of h1
  obtain ⟨ys, hy, rfl⟩ := bytes_of h2
  obtain ⟨out, h⟩ := tells_law ns xs ys L hn (fun y hy => u32_of (hr y hy)) hx hy
  exact ⟨1000, 9, out, h⟩
end Go.Proofs.YtbobbkgdbfcblaaDoor
