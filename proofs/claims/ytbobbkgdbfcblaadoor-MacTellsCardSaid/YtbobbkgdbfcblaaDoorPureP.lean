/- Plain lemmas: three rows put behind one another; a derived key. -/
import Derived.Test.YtbobbkgdbfcblaaDoorPureO
set_option linter.all false
set_option linter.unusedSimpArgs false
set_option linter.unusedVariables false
namespace Go.Proofs.YtbobbkgdbfcblaaDoor
open Go
theorem k_s2b (ob : OB) (d : Nat) (z : List UInt8) : s2b ob d (.s z) = newX d (row (z.map fun c => [.i .u8 c.toNat]) 1 true) (.sl d 0 0 z.length) (getO ob d) := rfl
/-- A text's letters, as numbers. -/
def ltr (s : List UInt8) : List Int := s.map fun c => (c.toNat : Int)
theorem ltr_by (s : List UInt8) : (s.map fun c => [PV.i .u8 c.toNat]) = byL (ltr s) := by simp [byL, ltr]
theorem ltr_len (s : List UInt8) : (ltr s).length = s.length := by simp [ltr]
set_option maxHeartbeats 4000000 in
theorem L38t (N d : Nat) (ps xs ys : List Int) (hp : ps ≠ []) (hne : xs ≠ []) (h : ps.length + xs.length + ys.length ≤ 4294967296) : sem tab (N + 4) (d + 2) 38 [.l false [[.l false (byL ps)], [.l false (byL xs)], [.l false (byL ys)]]] [] = some (.sl 0 0 0 (ps.length + xs.length + ys.length), [row (byL (ps ++ xs ++ ys)) 1 true]) := by
  rw [sem_succ tab (N + 4) (d + 1) 38 m38 rfl]
  have hq := byL_len ps
  have hx := byL_len xs
  have hy := byL_len ys
  have fq := flat_by ps
  have fx := flat_by xs
  have fy := flat_by ys
  have wq := allW_by ps
  have wx := allW_by xs
  have wy := allW_by ys
  have hap : byL (ps ++ xs ++ ys) = byL ps ++ byL xs ++ byL ys := by simp [byL]
  have hxl : 0 < xs.length := List.length_pos_iff.2 hne
  have hpl : 0 < ps.length := List.length_pos_iff.2 hp
  rw [hap]
  generalize byL ps = p at *
  generalize byL xs = a at *
  generalize byL ys = b at *
  rw [← hx] at hxl
  rw [← hq] at hpl
  rw [← hq, ← hx, ← hy] at h ⊢
  have ha : ¬ a = [] := by rintro rfl; simp at hxl
  have hpp : ¬ p = [] := by rintro rfl; simp at hpl
  have n00 : ¬ ((p.length : Int) < 0) := by omega
  have n0 : ¬ ((p.length : Int) + a.length < 0) := by omega
  have n1 : ¬ ((a.length : Int) < 0) := by omega
  have n3 : ¬ ((b.length : Int) < 0) := by omega
  have n2 : ¬ ((p.length : Int) + (a.length : Int) + b.length < 0) := by omega
  have h0 : p.length ≤ 4294967296 := by omega
  have h1 : p.length + a.length ≤ 4294967296 := by omega
  have h2 : b.length ≤ 4294967296 := by omega
  have h4 : ¬ (p.length + a.length ≤ p.length) := by omega
  have t0 : List.take p.length p = p := List.take_length
  have t1 : List.take (p.length + a.length) (p ++ a) = p ++ a := List.take_of_length_le (by simp)
  clear hx hy hap hne hq hp
  by_cases hb : b = []
  · subst hb
    simp -implicitDefEqProofs (maxSteps := 1000000) (disch := first | omega | rfl) [m38, m38b0, m38b1, L44', allW, flatEls, n00, n0, n1, n2, h0, h1, h4, fq, wq, fx, wx, ha, hpp, t0, t1, k_g0, k_gs, k_bnd, k_bndO, k_br_t, k_br_f, k_br_u, k_agree, k_loop, k_add, k_sub, k_mul, k_lss, k_leq, k_gtr, k_geq, k_eql, k_neq, k_rem, k_quo, k_and, k_or, k_xor, k_shl, k_shr, k_seql, k_sneq, k_sadd, k_beql, k_bneq, k_not, k_neg, k_com, k_cv, k_pk, k_gd, k_gdt, k_gdO, k_gdOt, k_ext, k_fA, k_l1, k_l1b, k_l1q, k_l1qb, k_lN, k_lNq, k_atO, k_atE, k_aggO, k_takeO, k_blobAt, k_nthB, k_hd_i, k_hd_b, k_hd_s, k_hd_l, k_hd_e, k_hd_sl, k_rt_l, k_rt_i, k_rt_b, k_rt_s, k_rt_blob, k_st, k_stb, k_stX, k_stE, k_stD, k_stB, k_stG, k_stF, k_stP, k_stQ, k_puris0, k_puris, k_puriC, k_puri_i, k_puri_b, k_puri_l, k_c_agg, k_c_i, k_c_b, k_c_s, k_c_l, k_c_e, k_c_sl, k_c_p, k_sv_agg, k_sv_i, k_sv_b, k_sv_s, k_sv_l, k_sv_e, k_sv_sl, k_sc_i, k_sc_b, k_wd_i, k_wd_b, k_wd_s, k_wd_l, k_wd_e, k_wd_sl, k_wd_p, k_wd_blob, k_al, k_bx, k_new, k_len_l, k_len_e, k_len_sl, k_len_bs, k_lenS, k_cp_e, k_eNs_l, k_eNs_e, k_xS_l, k_xS_sl, k_xSO, k_elQ, k_xA, k_xAq, k_slc_l, k_slc_e, k_slc_sl, k_slL, k_slE, k_slO, k_opt0, k_opt1, k_map0, k_allW0, k_allW1, k_fe0, k_fe1, k_fs0, k_fs1, k_fl_i, k_fl_b, k_fl_l, k_ap, k_cont_l, k_cont_e, k_cont_s, k_cont_sl, k_contL_l, k_contL_e, k_contL_sl, k_contX, k_apC, k_apE_e, k_apE_sl, k_apO, k_apz, k_bldS0, k_bldS, k_bld, k_bldC0, k_bldC, k_eAr, k_b2s, k_b2sC, k_strO, k_ca0, k_ca0X, k_ca0R, k_reiN0, k_reiN1, k_rs1_0, k_rs_0, k_rl_0, k_re_0, k_rs1, k_rs, k_rl, k_re, k_r0_l, k_r0_e, k_r0_i, k_r0_b, k_r0_s, k_r0_blob, k_r0_sl, k_r0_bs, k_r1_agg, k_r1_l, k_r1_e, k_r1_i, k_r1_b, k_r1_s, k_r1_sl, k_r1_bs, k_contL_bs, k_contB, k_r_l, k_r_sl, k_back0, k_back1, k_one1, k_one2, k_handX, k_rowX, k_ca, k_ca_ei, k_fin1, k_fin2, k_res_b, k_res_i, k_res_s, k_res_l, k_res_e, k_res_agg, k_res_sl, k_head, k_head0, k_headF, k_headOK, k_hc0, k_asR_e, k_asR_sl, k_sea_sl, getS, getO, gS, zipN, dropW, takeW, wds, stvs, sea, seaL, refs, refsL, refsEls, refsO, isPureEls, isPures, isPure, noExt, noExts, noExtEls, cellsL, ren, renL, renEls, keepO, keepS, keysO, refsS, refsOB, cntN, headC, setS, boxO, row, putW, putB, putB1, eNl, newOs, frz, renO, noExtO, zps, zp, two32, w64, -getElem?_pos]
  · have h3 : ¬ (p.length + a.length + b.length ≤ p.length + a.length) := by
      have := List.length_pos_iff.2 hb
      omega
    have h3' : p.length + a.length + b.length = p.length + (a.length + b.length) := by omega
    have t2 : List.take (p.length + (a.length + b.length)) (p ++ (a ++ b)) = p ++ (a ++ b) := List.take_of_length_le (by simp)
    have hN : p.length + (a.length + b.length) ≤ 4294967296 := by omega
    have h3N : ¬ (p.length + (a.length + b.length) ≤ p.length + a.length) := by omega
    have bp : 0 < b.length := List.length_pos_iff.2 hb
    simp -implicitDefEqProofs (maxSteps := 1000000) (disch := first | omega | rfl) [m38, m38b0, m38b1, L44', n00, n0, n1, n2, n3, h0, h1, h2, h3', hN, h3N, bp, h4, fq, wq, fx, wx, fy, wy, ha, hpp, hb, t0, t1, t2, k_g0, k_gs, k_bnd, k_bndO, k_br_t, k_br_f, k_br_u, k_agree, k_loop, k_add, k_sub, k_mul, k_lss, k_leq, k_gtr, k_geq, k_eql, k_neq, k_rem, k_quo, k_and, k_or, k_xor, k_shl, k_shr, k_seql, k_sneq, k_sadd, k_beql, k_bneq, k_not, k_neg, k_com, k_cv, k_pk, k_gd, k_gdt, k_gdO, k_gdOt, k_ext, k_fA, k_l1, k_l1b, k_l1q, k_l1qb, k_lN, k_lNq, k_atO, k_atE, k_aggO, k_takeO, k_blobAt, k_nthB, k_hd_i, k_hd_b, k_hd_s, k_hd_l, k_hd_e, k_hd_sl, k_rt_l, k_rt_i, k_rt_b, k_rt_s, k_rt_blob, k_st, k_stb, k_stX, k_stE, k_stD, k_stB, k_stG, k_stF, k_stP, k_stQ, k_puris0, k_puris, k_puriC, k_puri_i, k_puri_b, k_puri_l, k_c_agg, k_c_i, k_c_b, k_c_s, k_c_l, k_c_e, k_c_sl, k_c_p, k_sv_agg, k_sv_i, k_sv_b, k_sv_s, k_sv_l, k_sv_e, k_sv_sl, k_sc_i, k_sc_b, k_wd_i, k_wd_b, k_wd_s, k_wd_l, k_wd_e, k_wd_sl, k_wd_p, k_wd_blob, k_al, k_bx, k_new, k_len_l, k_len_e, k_len_sl, k_len_bs, k_lenS, k_cp_e, k_eNs_l, k_eNs_e, k_xS_l, k_xS_sl, k_xSO, k_elQ, k_xA, k_xAq, k_slc_l, k_slc_e, k_slc_sl, k_slL, k_slE, k_slO, k_opt0, k_opt1, k_map0, k_allW0, k_allW1, k_fe0, k_fe1, k_fs0, k_fs1, k_fl_i, k_fl_b, k_fl_l, k_ap, k_cont_l, k_cont_e, k_cont_s, k_cont_sl, k_contL_l, k_contL_e, k_contL_sl, k_contX, k_apC, k_apE_e, k_apE_sl, k_apO, k_apz, k_bldS0, k_bldS, k_bld, k_bldC0, k_bldC, k_eAr, k_b2s, k_b2sC, k_strO, k_ca0, k_ca0X, k_ca0R, k_reiN0, k_reiN1, k_rs1_0, k_rs_0, k_rl_0, k_re_0, k_rs1, k_rs, k_rl, k_re, k_r0_l, k_r0_e, k_r0_i, k_r0_b, k_r0_s, k_r0_blob, k_r0_sl, k_r0_bs, k_r1_agg, k_r1_l, k_r1_e, k_r1_i, k_r1_b, k_r1_s, k_r1_sl, k_r1_bs, k_contL_bs, k_contB, k_r_l, k_r_sl, k_back0, k_back1, k_one1, k_one2, k_handX, k_rowX, k_ca, k_ca_ei, k_fin1, k_fin2, k_res_b, k_res_i, k_res_s, k_res_l, k_res_e, k_res_agg, k_res_sl, k_head, k_head0, k_headF, k_headOK, k_hc0, k_asR_e, k_asR_sl, k_sea_sl, getS, getO, gS, zipN, dropW, takeW, wds, stvs, sea, seaL, refs, refsL, refsEls, refsO, isPureEls, isPures, isPure, noExt, noExts, noExtEls, cellsL, ren, renL, renEls, keepO, keepS, keysO, refsS, refsOB, cntN, headC, setS, boxO, row, putW, putB, putB1, eNl, newOs, frz, renO, noExtO, zps, zp, two32, w64, -getElem?_pos]
end Go.Proofs.YtbobbkgdbfcblaaDoor
