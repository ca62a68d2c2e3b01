/- Plain lemmas: a round comes to some register; rounds over all whole blocks. -/
import Derived.Test.YtbobbkgdbfcblaaDoorPureD
set_option linter.all false
set_option linter.unusedSimpArgs false
set_option linter.unusedVariables false
namespace Go.Proofs.YtbobbkgdbfcblaaDoor
open Go
def sl43 (k : Int) : SL := [(2, .p 80 0 0 0 none), (4, .p 96 0 0 0 none), (5, .p 104 0 0 0 none), (6, .p 112 0 0 0 none), (16, .i .i64 k)]
def ob43 (r z w x : List PV) : OB := [(80, box [.blob 8 r] 8), (96, box [.blob 8 z] 8), (104, box [.blob 64 w] 64), (112, box [.blob 8 x] 8)]
def sl43b (k : Int) : SL := [(2, .p 80 0 0 0 none), (4, .p 96 0 0 0 none), (6, .p 112 0 0 0 none), (98, .i .i64 k)]
def ob43b (r z x : List PV) : OB := [(80, box [.blob 8 r] 8), (96, box [.blob 8 z] 8), (112, box [.blob 8 x] 8)]
set_option maxHeartbeats 8000000 in
theorem step43 (k : Nat) (r z w mm : List PV) (x0 x1 x2 x3 x4 x5 x6 x7 wk mk : Int) (hk : k < 64) (hm : gMore = [.blob 64 mm]) (h0 : w[k]? = some (.i .u32 wk)) (h1 : mm[k]? = some (.i .u32 mk)) :
    ∃ t u, ∀ (N d : Nat) (g : SL → OB → Option R), m43b1 (sem tab N (d + 2)) N [] g (sl43 k) (ob43 r z w [.i .u32 x0, .i .u32 x1, .i .u32 x2, .i .u32 x3, .i .u32 x4, .i .u32 x5, .i .u32 x6, .i .u32 x7]) =
      g (sl43 (k + 1 : Nat)) (ob43 r z w [.i .u32 t, .i .u32 x0, .i .u32 x1, .i .u32 x2, .i .u32 u, .i .u32 x4, .i .u32 x5, .i .u32 x6]) := by
  have c1 : (k : Int) < 64 := by omega
  have c3 : (0 : Int) ≤ k := by omega
  apply Exists.intro
  apply Exists.intro
  intro N d g
  simp -implicitDefEqProofs (maxSteps := 1000000) (disch := first | omega | rfl) [m43b1, sl43, ob43, box, hm, turn6, turn11, turn25, turn2, turn13, turn22, hk, c1, c3, h0, h1, k_com, binI, k_g0, k_gs, k_bnd, k_bndO, k_br_t, k_br_f, k_br_u, k_agree, k_loop, k_add, k_sub, k_mul, k_lss, k_leq, k_gtr, k_geq, k_eql, k_neq, k_rem, k_quo, k_and, k_or, k_xor, k_shl, k_shr, k_seql, k_sneq, k_sadd, k_beql, k_bneq, k_not, k_neg, k_com, k_cv, k_pk, k_gd, k_gdt, k_gdO, k_gdOt, k_ext, k_fA, k_l1, k_l1b, k_l1q, k_l1qb, k_lN, k_lNq, k_atO, k_atE, k_aggO, k_takeO, k_blobAt, k_nthB, k_hd_i, k_hd_b, k_hd_s, k_hd_l, k_hd_e, k_hd_sl, k_rt_l, k_rt_i, k_rt_b, k_rt_s, k_rt_blob, k_st, k_stb, k_stX, k_stE, k_stD, k_stB, k_stG, k_stF, k_stP, k_stQ, k_puris0, k_puris, k_puriC, k_puri_i, k_puri_b, k_puri_l, k_c_agg, k_c_i, k_c_b, k_c_s, k_c_l, k_c_e, k_c_sl, k_c_p, k_sv_agg, k_sv_i, k_sv_b, k_sv_s, k_sv_l, k_sv_e, k_sv_sl, k_sc_i, k_sc_b, k_wd_i, k_wd_b, k_wd_s, k_wd_l, k_wd_e, k_wd_sl, k_wd_p, k_wd_blob, k_al, k_bx, k_new, k_len_l, k_len_e, k_len_sl, k_len_bs, k_lenS, k_cp_e, k_eNs_l, k_eNs_e, k_xS_l, k_xS_sl, k_xSO, k_elQ, k_xA, k_xAq, k_slc_l, k_slc_e, k_slc_sl, k_slL, k_slE, k_slO, k_opt0, k_opt1, k_map0, k_allW0, k_allW1, k_fe0, k_fe1, k_fs0, k_fs1, k_fl_i, k_fl_b, k_fl_l, k_ap, k_cont_l, k_cont_e, k_cont_s, k_cont_sl, k_contL_l, k_contL_e, k_contL_sl, k_contX, k_apC, k_apE_e, k_apE_sl, k_apO, k_apz, k_bldS0, k_bldS, k_bld, k_bldC0, k_bldC, k_eAr, k_b2s, k_b2sC, k_strO, k_ca0, k_ca0X, k_ca0R, k_reiN0, k_reiN1, k_rs1_0, k_rs_0, k_rl_0, k_re_0, k_rs1, k_rs, k_rl, k_re, k_r0_l, k_r0_e, k_r0_i, k_r0_b, k_r0_s, k_r0_blob, k_r0_sl, k_r0_bs, k_r1_agg, k_r1_l, k_r1_e, k_r1_i, k_r1_b, k_r1_s, k_r1_sl, k_r1_bs, k_contL_bs, k_contB, k_r_l, k_r_sl, k_back0, k_back1, k_one1, k_one2, k_handX, k_rowX, k_ca, k_ca_ei, k_fin1, k_fin2, k_res_b, k_res_i, k_res_s, k_res_l, k_res_e, k_res_agg, k_res_sl, k_head, k_head0, k_headF, k_headOK, k_hc0, k_asR_e, k_asR_sl, k_sea_sl, getS, getO, gS, zipN, dropW, takeW, wds, stvs, sea, seaL, refs, refsL, refsEls, refsO, isPureEls, isPures, isPure, noExt, noExts, noExtEls, cellsL, ren, renL, renEls, keepO, keepS, keysO, refsS, refsOB, cntN, headC, setS, boxO, row, putW, putB, putB1, eNl, newOs, frz, renO, noExtO, zps, zp, two32, w64, -getElem?_pos]
  rfl
set_option maxHeartbeats 4000000 in
theorem mid43 (N d : Nat) (g : SL → OB → Option R) (r z w x : List PV) : m43b1 (sem tab N (d + 2)) N [] g (sl43 64) (ob43 r z w x) = loopC (m43b0 (sem tab N (d + 2)) N []) N (sl43b 0) (ob43b r z x) := by
  simp -implicitDefEqProofs (maxSteps := 1000000) (disch := first | omega | rfl) [m43b1, sl43, ob43, sl43b, ob43b, box, k_g0, k_gs, k_bnd, k_bndO, k_br_t, k_br_f, k_br_u, k_agree, k_loop, k_add, k_sub, k_mul, k_lss, k_leq, k_gtr, k_geq, k_eql, k_neq, k_rem, k_quo, k_and, k_or, k_xor, k_shl, k_shr, k_seql, k_sneq, k_sadd, k_beql, k_bneq, k_not, k_neg, k_com, k_cv, k_pk, k_gd, k_gdt, k_gdO, k_gdOt, k_ext, k_fA, k_l1, k_l1b, k_l1q, k_l1qb, k_lN, k_lNq, k_atO, k_atE, k_aggO, k_takeO, k_blobAt, k_nthB, k_hd_i, k_hd_b, k_hd_s, k_hd_l, k_hd_e, k_hd_sl, k_rt_l, k_rt_i, k_rt_b, k_rt_s, k_rt_blob, k_st, k_stb, k_stX, k_stE, k_stD, k_stB, k_stG, k_stF, k_stP, k_stQ, k_puris0, k_puris, k_puriC, k_puri_i, k_puri_b, k_puri_l, k_c_agg, k_c_i, k_c_b, k_c_s, k_c_l, k_c_e, k_c_sl, k_c_p, k_sv_agg, k_sv_i, k_sv_b, k_sv_s, k_sv_l, k_sv_e, k_sv_sl, k_sc_i, k_sc_b, k_wd_i, k_wd_b, k_wd_s, k_wd_l, k_wd_e, k_wd_sl, k_wd_p, k_wd_blob, k_al, k_bx, k_new, k_len_l, k_len_e, k_len_sl, k_len_bs, k_lenS, k_cp_e, k_eNs_l, k_eNs_e, k_xS_l, k_xS_sl, k_xSO, k_elQ, k_xA, k_xAq, k_slc_l, k_slc_e, k_slc_sl, k_slL, k_slE, k_slO, k_opt0, k_opt1, k_map0, k_allW0, k_allW1, k_fe0, k_fe1, k_fs0, k_fs1, k_fl_i, k_fl_b, k_fl_l, k_ap, k_cont_l, k_cont_e, k_cont_s, k_cont_sl, k_contL_l, k_contL_e, k_contL_sl, k_contX, k_apC, k_apE_e, k_apE_sl, k_apO, k_apz, k_bldS0, k_bldS, k_bld, k_bldC0, k_bldC, k_eAr, k_b2s, k_b2sC, k_strO, k_ca0, k_ca0X, k_ca0R, k_reiN0, k_reiN1, k_rs1_0, k_rs_0, k_rl_0, k_re_0, k_rs1, k_rs, k_rl, k_re, k_r0_l, k_r0_e, k_r0_i, k_r0_b, k_r0_s, k_r0_blob, k_r0_sl, k_r0_bs, k_r1_agg, k_r1_l, k_r1_e, k_r1_i, k_r1_b, k_r1_s, k_r1_sl, k_r1_bs, k_contL_bs, k_contB, k_r_l, k_r_sl, k_back0, k_back1, k_one1, k_one2, k_handX, k_rowX, k_ca, k_ca_ei, k_fin1, k_fin2, k_res_b, k_res_i, k_res_s, k_res_l, k_res_e, k_res_agg, k_res_sl, k_head, k_head0, k_headF, k_headOK, k_hc0, k_asR_e, k_asR_sl, k_sea_sl, getS, getO, gS, zipN, dropW, takeW, wds, stvs, sea, seaL, refs, refsL, refsEls, refsO, isPureEls, isPures, isPure, noExt, noExts, noExtEls, cellsL, ren, renL, renEls, keepO, keepS, keysO, refsS, refsOB, cntN, headC, setS, boxO, row, putW, putB, putB1, eNl, newOs, frz, renO, noExtO, zps, zp, two32, w64, -getElem?_pos]
set_option maxHeartbeats 4000000 in
theorem step43b (k : Nat) (r z x : List PV) (a b : Int) (hk : k < 8) (hx : x.length = 8) (h0 : x[k]? = some (.i .u32 a)) (h1 : r[k]? = some (.i .u32 b)) :
    ∃ y, ∀ (N d : Nat) (g : SL → OB → Option R), m43b0 (sem tab N (d + 2)) N [] g (sl43b k) (ob43b r z x) = g (sl43b (k + 1 : Nat)) (ob43b r z (x.set k (.i .u32 y))) := by
  have c1 : (k : Int) < 8 := by omega
  have c3 : (0 : Int) ≤ k := by omega
  apply Exists.intro
  intro N d g
  simp -implicitDefEqProofs (maxSteps := 1000000) (disch := first | omega | rfl) [m43b0, sl43b, ob43b, box, hk, hx, c1, c3, h0, h1, k_g0, k_gs, k_bnd, k_bndO, k_br_t, k_br_f, k_br_u, k_agree, k_loop, k_add, k_sub, k_mul, k_lss, k_leq, k_gtr, k_geq, k_eql, k_neq, k_rem, k_quo, k_and, k_or, k_xor, k_shl, k_shr, k_seql, k_sneq, k_sadd, k_beql, k_bneq, k_not, k_neg, k_com, k_cv, k_pk, k_gd, k_gdt, k_gdO, k_gdOt, k_ext, k_fA, k_l1, k_l1b, k_l1q, k_l1qb, k_lN, k_lNq, k_atO, k_atE, k_aggO, k_takeO, k_blobAt, k_nthB, k_hd_i, k_hd_b, k_hd_s, k_hd_l, k_hd_e, k_hd_sl, k_rt_l, k_rt_i, k_rt_b, k_rt_s, k_rt_blob, k_st, k_stb, k_stX, k_stE, k_stD, k_stB, k_stG, k_stF, k_stP, k_stQ, k_puris0, k_puris, k_puriC, k_puri_i, k_puri_b, k_puri_l, k_c_agg, k_c_i, k_c_b, k_c_s, k_c_l, k_c_e, k_c_sl, k_c_p, k_sv_agg, k_sv_i, k_sv_b, k_sv_s, k_sv_l, k_sv_e, k_sv_sl, k_sc_i, k_sc_b, k_wd_i, k_wd_b, k_wd_s, k_wd_l, k_wd_e, k_wd_sl, k_wd_p, k_wd_blob, k_al, k_bx, k_new, k_len_l, k_len_e, k_len_sl, k_len_bs, k_lenS, k_cp_e, k_eNs_l, k_eNs_e, k_xS_l, k_xS_sl, k_xSO, k_elQ, k_xA, k_xAq, k_slc_l, k_slc_e, k_slc_sl, k_slL, k_slE, k_slO, k_opt0, k_opt1, k_map0, k_allW0, k_allW1, k_fe0, k_fe1, k_fs0, k_fs1, k_fl_i, k_fl_b, k_fl_l, k_ap, k_cont_l, k_cont_e, k_cont_s, k_cont_sl, k_contL_l, k_contL_e, k_contL_sl, k_contX, k_apC, k_apE_e, k_apE_sl, k_apO, k_apz, k_bldS0, k_bldS, k_bld, k_bldC0, k_bldC, k_eAr, k_b2s, k_b2sC, k_strO, k_ca0, k_ca0X, k_ca0R, k_reiN0, k_reiN1, k_rs1_0, k_rs_0, k_rl_0, k_re_0, k_rs1, k_rs, k_rl, k_re, k_r0_l, k_r0_e, k_r0_i, k_r0_b, k_r0_s, k_r0_blob, k_r0_sl, k_r0_bs, k_r1_agg, k_r1_l, k_r1_e, k_r1_i, k_r1_b, k_r1_s, k_r1_sl, k_r1_bs, k_contL_bs, k_contB, k_r_l, k_r_sl, k_back0, k_back1, k_one1, k_one2, k_handX, k_rowX, k_ca, k_ca_ei, k_fin1, k_fin2, k_res_b, k_res_i, k_res_s, k_res_l, k_res_e, k_res_agg, k_res_sl, k_head, k_head0, k_headF, k_headOK, k_hc0, k_asR_e, k_asR_sl, k_sea_sl, getS, getO, gS, zipN, dropW, takeW, wds, stvs, sea, seaL, refs, refsL, refsEls, refsO, isPureEls, isPures, isPure, noExt, noExts, noExtEls, cellsL, ren, renL, renEls, keepO, keepS, keysO, refsS, refsOB, cntN, headC, setS, boxO, row, putW, putB, putB1, eNl, newOs, frz, renO, noExtO, zps, zp, two32, w64, -getElem?_pos]
  rfl
set_option maxHeartbeats 4000000 in
theorem end43b (N d : Nat) (g : SL → OB → Option R) (r z x : List PV) : m43b0 (sem tab N (d + 2)) N [] g (sl43b 8) (ob43b r z x) = some (.agg [.blob 8 x], []) := by
  simp -implicitDefEqProofs (maxSteps := 1000000) (disch := first | omega | rfl) [m43b0, sl43b, ob43b, box, k_g0, k_gs, k_bnd, k_bndO, k_br_t, k_br_f, k_br_u, k_agree, k_loop, k_add, k_sub, k_mul, k_lss, k_leq, k_gtr, k_geq, k_eql, k_neq, k_rem, k_quo, k_and, k_or, k_xor, k_shl, k_shr, k_seql, k_sneq, k_sadd, k_beql, k_bneq, k_not, k_neg, k_com, k_cv, k_pk, k_gd, k_gdt, k_gdO, k_gdOt, k_ext, k_fA, k_l1, k_l1b, k_l1q, k_l1qb, k_lN, k_lNq, k_atO, k_atE, k_aggO, k_takeO, k_blobAt, k_nthB, k_hd_i, k_hd_b, k_hd_s, k_hd_l, k_hd_e, k_hd_sl, k_rt_l, k_rt_i, k_rt_b, k_rt_s, k_rt_blob, k_st, k_stb, k_stX, k_stE, k_stD, k_stB, k_stG, k_stF, k_stP, k_stQ, k_puris0, k_puris, k_puriC, k_puri_i, k_puri_b, k_puri_l, k_c_agg, k_c_i, k_c_b, k_c_s, k_c_l, k_c_e, k_c_sl, k_c_p, k_sv_agg, k_sv_i, k_sv_b, k_sv_s, k_sv_l, k_sv_e, k_sv_sl, k_sc_i, k_sc_b, k_wd_i, k_wd_b, k_wd_s, k_wd_l, k_wd_e, k_wd_sl, k_wd_p, k_wd_blob, k_al, k_bx, k_new, k_len_l, k_len_e, k_len_sl, k_len_bs, k_lenS, k_cp_e, k_eNs_l, k_eNs_e, k_xS_l, k_xS_sl, k_xSO, k_elQ, k_xA, k_xAq, k_slc_l, k_slc_e, k_slc_sl, k_slL, k_slE, k_slO, k_opt0, k_opt1, k_map0, k_allW0, k_allW1, k_fe0, k_fe1, k_fs0, k_fs1, k_fl_i, k_fl_b, k_fl_l, k_ap, k_cont_l, k_cont_e, k_cont_s, k_cont_sl, k_contL_l, k_contL_e, k_contL_sl, k_contX, k_apC, k_apE_e, k_apE_sl, k_apO, k_apz, k_bldS0, k_bldS, k_bld, k_bldC0, k_bldC, k_eAr, k_b2s, k_b2sC, k_strO, k_ca0, k_ca0X, k_ca0R, k_reiN0, k_reiN1, k_rs1_0, k_rs_0, k_rl_0, k_re_0, k_rs1, k_rs, k_rl, k_re, k_r0_l, k_r0_e, k_r0_i, k_r0_b, k_r0_s, k_r0_blob, k_r0_sl, k_r0_bs, k_r1_agg, k_r1_l, k_r1_e, k_r1_i, k_r1_b, k_r1_s, k_r1_sl, k_r1_bs, k_contL_bs, k_contB, k_r_l, k_r_sl, k_back0, k_back1, k_one1, k_one2, k_handX, k_rowX, k_ca, k_ca_ei, k_fin1, k_fin2, k_res_b, k_res_i, k_res_s, k_res_l, k_res_e, k_res_agg, k_res_sl, k_head, k_head0, k_headF, k_headOK, k_hc0, k_asR_e, k_asR_sl, k_sea_sl, getS, getO, gS, zipN, dropW, takeW, wds, stvs, sea, seaL, refs, refsL, refsEls, refsO, isPureEls, isPures, isPure, noExt, noExts, noExtEls, cellsL, ren, renL, renEls, keepO, keepS, keysO, refsS, refsOB, cntN, headC, setS, boxO, row, putW, putB, putB1, eNl, newOs, frz, renO, noExtO, zps, zp, two32, w64, -getElem?_pos]
theorem loop43b (rs : List Int) (hr : rs.length = 8) (z : List PV) : ∀ (n k : Nat) (xs : List Int), k + n = 8 → xs.length = 8 → ∃ ys : List Int, ys.length = 8 ∧ ∀ N d M : Nat, loopC (m43b0 (sem tab N (d + 2)) N []) (M + 1 + n) (sl43b k) (ob43b (wL rs) z (wL xs)) = some (.agg [.blob 8 (wL ys)], []) := by
  intro n
  induction n with
  | zero =>
    intro k xs hk hx
    have : k = 8 := by omega
    subst this
    exact ⟨xs, hx, fun N d M => by rw [Nat.add_zero, k_loop]; exact end43b N d _ _ _ _⟩
  | succ n ih =>
    intro k xs hk hx
    obtain ⟨a, ha⟩ := get_of hx (show k < 8 by omega)
    obtain ⟨b, hb⟩ := get_of hr (show k < 8 by omega)
    obtain ⟨y, hy⟩ := step43b k (wL rs) z (wL xs) a b (by omega) (by rw [wL_len]; exact hx) (by rw [wL_get, ha]; rfl) (by rw [wL_get, hb]; rfl)
    obtain ⟨ys, h1, h2⟩ := ih (k + 1) (xs.set k y) (by omega) (by simpa using hx)
    refine ⟨ys, h1, fun N d M => ?_⟩
    rw [show M + 1 + (n + 1) = (M + 1 + n) + 1 by omega, k_loop, hy, wL_set]
    exact h2 N d M
theorem eight {xs : List Int} (h : xs.length = 8) : ∃ x0 x1 x2 x3 x4 x5 x6 x7, xs = [x0, x1, x2, x3, x4, x5, x6, x7] := by
  rcases xs with _ | ⟨x0, _ | ⟨x1, _ | ⟨x2, _ | ⟨x3, _ | ⟨x4, _ | ⟨x5, _ | ⟨x6, _ | ⟨x7, _ | ⟨x8, xs⟩⟩⟩⟩⟩⟩⟩⟩⟩ <;> simp at h
  exact ⟨x0, x1, x2, x3, x4, x5, x6, x7, rfl⟩
theorem loop43 (rs : List Int) (hr : rs.length = 8) (ws : List Int) (hw : ws.length = 64) (z : List PV) : ∀ (n k : Nat) (xs : List Int), k + n = 64 → xs.length = 8 → ∃ ys : List Int, ys.length = 8 ∧ ∀ M' d M : Nat, loopC (m43b1 (sem tab (M' + 9) (d + 2)) (M' + 9) []) (M + 1 + n) (sl43 k) (ob43 (wL rs) z (wL ws) (wL xs)) = some (.agg [.blob 8 (wL ys)], []) := by
  intro n
  induction n with
  | zero =>
    intro k xs hk hx
    have : k = 64 := by omega
    subst this
    obtain ⟨ys, h1, h2⟩ := loop43b rs hr z 8 0 xs rfl hx
    refine ⟨ys, h1, fun M' d M => ?_⟩
    rw [Nat.add_zero, k_loop]
    have := mid43 (M' + 9) d (loopC (m43b1 (sem tab (M' + 9) (d + 2)) (M' + 9) []) M) (wL rs) z (wL ws) (wL xs)
    rw [show ((64 : Nat) : Int) = 64 from rfl, this]
    exact h2 (M' + 9) d M'
  | succ n ih =>
    intro k xs hk hx
    obtain ⟨wk, hwk⟩ := get_of hw (show k < 64 by omega)
    obtain ⟨mk, hmk⟩ := get_of (show nMore.length = 64 from rfl) (show k < 64 by omega)
    obtain ⟨x0, x1, x2, x3, x4, x5, x6, x7, rfl⟩ := eight hx
    obtain ⟨t, u, h⟩ := step43 k (wL rs) z (wL ws) (nMore.map (.i .u32)) x0 x1 x2 x3 x4 x5 x6 x7 wk mk (by omega) rfl (by rw [wL_get, hwk]; rfl) (by rw [List.getElem?_map, hmk]; rfl)
    have e : ∀ a0 a1 a2 a3 a4 a5 a6 a7 : Int, wL [a0, a1, a2, a3, a4, a5, a6, a7] = [.i .u32 a0, .i .u32 a1, .i .u32 a2, .i .u32 a3, .i .u32 a4, .i .u32 a5, .i .u32 a6, .i .u32 a7] := fun _ _ _ _ _ _ _ _ => rfl
    obtain ⟨ys, h1, h2⟩ := ih (k + 1) [t, x0, x1, x2, u, x4, x5, x6] (by omega) rfl
    refine ⟨ys, h1, fun M' d M => ?_⟩
    rw [show M + 1 + (n + 1) = (M + 1 + n) + 1 by omega, k_loop, e, h, ← e]
    exact h2 M' d M
set_option maxHeartbeats 4000000 in
/-- A round comes to some register. -/
theorem E43 (rs xs : List Int) (hr : rs.length = 8) (hx : xs.length = 64) : ∃ ys : List Int, ys.length = 8 ∧ ∀ M d : Nat, sem tab (M + 65) (d + 4) 43 [.agg [.blob 8 (wL rs)], .l false (byL xs)] [] = some (.agg [.blob 8 (wL ys)], []) := by
  obtain ⟨ws, hw, h48⟩ := E48 xs hx
  obtain ⟨ys, h1, h2⟩ := loop43 rs hr ws hw (List.replicate 8 (.i .u32 0)) 64 0 rs rfl hr
  refine ⟨ys, h1, fun M d => ?_⟩
  have h48 := h48 M d
  have h2 := h2 (M + 56) (d + 1) M
  rw [sem_succ tab (M + 65) (d + 3) 43 m43 rfl]
  generalize byL xs = b at *
  generalize wL rs = r at *
  generalize wL ws = w at *
  generalize wL ys = y at *
  generalize hz : List.replicate 8 (PV.i IntKind.u32 0) = z at *
  generalize hz2 : List.replicate 64 (PV.i IntKind.u32 0) = z2 at *
  simp only [sl43, ob43, box, Nat.add_assoc] at h2
  simp -implicitDefEqProofs (maxSteps := 1000000) (disch := first | omega | rfl) [m43, hz, hz2, h48, k_g0, k_gs, k_bnd, k_bndO, k_br_t, k_br_f, k_br_u, k_agree, k_loop, k_add, k_sub, k_mul, k_lss, k_leq, k_gtr, k_geq, k_eql, k_neq, k_rem, k_quo, k_and, k_or, k_xor, k_shl, k_shr, k_seql, k_sneq, k_sadd, k_beql, k_bneq, k_not, k_neg, k_com, k_cv, k_pk, k_gd, k_gdt, k_gdO, k_gdOt, k_ext, k_fA, k_l1, k_l1b, k_l1q, k_l1qb, k_lN, k_lNq, k_atO, k_atE, k_aggO, k_takeO, k_blobAt, k_nthB, k_hd_i, k_hd_b, k_hd_s, k_hd_l, k_hd_e, k_hd_sl, k_rt_l, k_rt_i, k_rt_b, k_rt_s, k_rt_blob, k_st, k_stb, k_stX, k_stE, k_stD, k_stB, k_stG, k_stF, k_stP, k_stQ, k_puris0, k_puris, k_puriC, k_puri_i, k_puri_b, k_puri_l, k_c_agg, k_c_i, k_c_b, k_c_s, k_c_l, k_c_e, k_c_sl, k_c_p, k_sv_agg, k_sv_i, k_sv_b, k_sv_s, k_sv_l, k_sv_e, k_sv_sl, k_sc_i, k_sc_b, k_wd_i, k_wd_b, k_wd_s, k_wd_l, k_wd_e, k_wd_sl, k_wd_p, k_wd_blob, k_al, k_bx, k_new, k_len_l, k_len_e, k_len_sl, k_len_bs, k_lenS, k_cp_e, k_eNs_l, k_eNs_e, k_xS_l, k_xS_sl, k_xSO, k_elQ, k_xA, k_xAq, k_slc_l, k_slc_e, k_slc_sl, k_slL, k_slE, k_slO, k_opt0, k_opt1, k_map0, k_allW0, k_allW1, k_fe0, k_fe1, k_fs0, k_fs1, k_fl_i, k_fl_b, k_fl_l, k_ap, k_cont_l, k_cont_e, k_cont_s, k_cont_sl, k_contL_l, k_contL_e, k_contL_sl, k_contX, k_apC, k_apE_e, k_apE_sl, k_apO, k_apz, k_bldS0, k_bldS, k_bld, k_bldC0, k_bldC, k_eAr, k_b2s, k_b2sC, k_strO, k_ca0, k_ca0X, k_ca0R, k_reiN0, k_reiN1, k_rs1_0, k_rs_0, k_rl_0, k_re_0, k_rs1, k_rs, k_rl, k_re, k_r0_l, k_r0_e, k_r0_i, k_r0_b, k_r0_s, k_r0_blob, k_r0_sl, k_r0_bs, k_r1_agg, k_r1_l, k_r1_e, k_r1_i, k_r1_b, k_r1_s, k_r1_sl, k_r1_bs, k_contL_bs, k_contB, k_r_l, k_r_sl, k_back0, k_back1, k_one1, k_one2, k_handX, k_rowX, k_ca, k_ca_ei, k_fin1, k_fin2, k_res_b, k_res_i, k_res_s, k_res_l, k_res_e, k_res_agg, k_res_sl, k_head, k_head0, k_headF, k_headOK, k_hc0, k_asR_e, k_asR_sl, k_sea_sl, getS, getO, gS, zipN, dropW, takeW, wds, stvs, sea, seaL, refs, refsL, refsEls, refsO, isPureEls, isPures, isPure, noExt, noExts, noExtEls, cellsL, ren, renL, renEls, keepO, keepS, keysO, refsS, refsOB, cntN, headC, setS, boxO, row, putW, putB, putB1, eNl, newOs, frz, renO, noExtO, zps, zp, two32, w64, -getElem?_pos]
  exact h2
open Classical in
/-- What a round makes of a register, by a block. -/
noncomputable def rnd (rs xs : List Int) : List Int := if h : rs.length = 8 ∧ xs.length = 64 then Classical.choose (E43 rs xs h.1 h.2) else rs
theorem rnd_len (rs xs : List Int) (hr : rs.length = 8) : (rnd rs xs).length = 8 := by
  unfold rnd
  split
  · rename_i h; exact (Classical.choose_spec (E43 rs xs h.1 h.2)).1
  · exact hr
theorem L43 (M d : Nat) (rs xs : List Int) (hr : rs.length = 8) (hx : xs.length = 64) : sem tab (M + 65) (d + 4) 43 [.agg [.blob 8 (wL rs)], .l false (byL xs)] [] = some (.agg [.blob 8 (wL (rnd rs xs))], []) := by
  have h : rs.length = 8 ∧ xs.length = 64 := ⟨hr, hx⟩
  have := (Classical.choose_spec (E43 rs xs hr hx)).2 M d
  unfold rnd
  rw [dif_pos h]; exact this
/-- All whole blocks, and what is left. -/
noncomputable def rounds (rs xs : List Int) : List Int × List Int := if h : xs.length < 64 then (rs, xs) else rounds (rnd rs (xs.take 64)) (xs.drop 64)
termination_by xs.length
decreasing_by simp; omega
theorem rounds_short {rs xs : List Int} (h : xs.length < 64) : rounds rs xs = (rs, xs) := by rw [rounds, dif_pos h]
theorem rounds_long {rs xs : List Int} (h : ¬ xs.length < 64) : rounds rs xs = rounds (rnd rs (xs.take 64)) (xs.drop 64) := by rw [rounds, dif_neg h]
theorem rounds_len : ∀ (n : Nat) (rs xs : List Int), xs.length ≤ n → rs.length = 8 → (rounds rs xs).1.length = 8 ∧ (rounds rs xs).2.length = xs.length % 64 := by
  intro n
  induction n with
  | zero =>
    intro rs xs h hr
    rw [rounds_short (by omega)]
    exact ⟨hr, by simp only; omega⟩
  | succ n ih =>
    intro rs xs h hr
    by_cases hx : xs.length < 64
    · rw [rounds_short hx]; exact ⟨hr, by simp only; omega⟩
    · rw [rounds_long hx]
      obtain ⟨h1, h2⟩ := ih (rnd rs (xs.take 64)) (xs.drop 64) (by simp; omega) (rnd_len _ _ hr)
      refine ⟨h1, ?_⟩
      rw [h2]; simp; omega
/-- Bytes behind: what was left over comes ahead of them. -/
theorem rounds_app : ∀ (n : Nat) (rs xs ys : List Int), xs.length ≤ n → rounds rs (xs ++ ys) = rounds (rounds rs xs).1 ((rounds rs xs).2 ++ ys) := by
  intro n
  induction n with
  | zero =>
    intro rs xs ys h
    rw [rounds_short (rs := rs) (xs := xs) (by omega)]
  | succ n ih =>
    intro rs xs ys h
    by_cases hx : xs.length < 64
    · rw [rounds_short (rs := rs) hx]
    · rw [rounds_long (rs := rs) (xs := xs) hx, rounds_long (by simp; omega)]
      have e1 : (xs ++ ys).take 64 = xs.take 64 := by rw [List.take_append_of_le_length (by omega)]
      have e2 : (xs ++ ys).drop 64 = xs.drop 64 ++ ys := by rw [List.drop_append_of_le_length (by omega)]
      rw [e1, e2]
      exact ih (rnd rs (xs.take 64)) (xs.drop 64) ys (by simp; omega)
theorem byL_take (xs : List Int) (n : Nat) : (byL xs).take n = byL (xs.take n) := by simp [byL, List.map_take]
theorem byL_drop (xs : List Int) (n : Nat) : (byL xs).drop n = byL (xs.drop n) := by simp [byL, List.map_drop]
def sl37 (b : List (List PV)) : SL := [(1, .l false b), (2, .p 80 0 0 0 none), (4, .p 96 0 0 0 none)]
def ob37 (r z : List PV) : OB := [(80, box [.blob 8 r] 8), (96, box [.blob 8 z] 8)]
set_option maxHeartbeats 4000000 in
theorem end37 (N d : Nat) (g : SL → OB → Option R) (b : List (List PV)) (r z : List PV) (h : b.length < 64) : m37b0 (sem tab N d) N [] g (sl37 b) (ob37 r z) = some (.tup [.agg [.blob 8 r], .l false b], []) := by
  have h1 : ¬ (64 ≤ (b.length : Int)) := by omega
  simp -implicitDefEqProofs (maxSteps := 1000000) (disch := first | omega | rfl) [m37b0, sl37, ob37, box, h1, k_g0, k_gs, k_bnd, k_bndO, k_br_t, k_br_f, k_br_u, k_agree, k_loop, k_add, k_sub, k_mul, k_lss, k_leq, k_gtr, k_geq, k_eql, k_neq, k_rem, k_quo, k_and, k_or, k_xor, k_shl, k_shr, k_seql, k_sneq, k_sadd, k_beql, k_bneq, k_not, k_neg, k_com, k_cv, k_pk, k_gd, k_gdt, k_gdO, k_gdOt, k_ext, k_fA, k_l1, k_l1b, k_l1q, k_l1qb, k_lN, k_lNq, k_atO, k_atE, k_aggO, k_takeO, k_blobAt, k_nthB, k_hd_i, k_hd_b, k_hd_s, k_hd_l, k_hd_e, k_hd_sl, k_rt_l, k_rt_i, k_rt_b, k_rt_s, k_rt_blob, k_st, k_stb, k_stX, k_stE, k_stD, k_stB, k_stG, k_stF, k_stP, k_stQ, k_puris0, k_puris, k_puriC, k_puri_i, k_puri_b, k_puri_l, k_c_agg, k_c_i, k_c_b, k_c_s, k_c_l, k_c_e, k_c_sl, k_c_p, k_sv_agg, k_sv_i, k_sv_b, k_sv_s, k_sv_l, k_sv_e, k_sv_sl, k_sc_i, k_sc_b, k_wd_i, k_wd_b, k_wd_s, k_wd_l, k_wd_e, k_wd_sl, k_wd_p, k_wd_blob, k_al, k_bx, k_new, k_len_l, k_len_e, k_len_sl, k_len_bs, k_lenS, k_cp_e, k_eNs_l, k_eNs_e, k_xS_l, k_xS_sl, k_xSO, k_elQ, k_xA, k_xAq, k_slc_l, k_slc_e, k_slc_sl, k_slL, k_slE, k_slO, k_opt0, k_opt1, k_map0, k_allW0, k_allW1, k_fe0, k_fe1, k_fs0, k_fs1, k_fl_i, k_fl_b, k_fl_l, k_ap, k_cont_l, k_cont_e, k_cont_s, k_cont_sl, k_contL_l, k_contL_e, k_contL_sl, k_contX, k_apC, k_apE_e, k_apE_sl, k_apO, k_apz, k_bldS0, k_bldS, k_bld, k_bldC0, k_bldC, k_eAr, k_b2s, k_b2sC, k_strO, k_ca0, k_ca0X, k_ca0R, k_reiN0, k_reiN1, k_rs1_0, k_rs_0, k_rl_0, k_re_0, k_rs1, k_rs, k_rl, k_re, k_r0_l, k_r0_e, k_r0_i, k_r0_b, k_r0_s, k_r0_blob, k_r0_sl, k_r0_bs, k_r1_agg, k_r1_l, k_r1_e, k_r1_i, k_r1_b, k_r1_s, k_r1_sl, k_r1_bs, k_contL_bs, k_contB, k_r_l, k_r_sl, k_back0, k_back1, k_one1, k_one2, k_handX, k_rowX, k_ca, k_ca_ei, k_fin1, k_fin2, k_res_b, k_res_i, k_res_s, k_res_l, k_res_e, k_res_agg, k_res_sl, k_head, k_head0, k_headF, k_headOK, k_hc0, k_asR_e, k_asR_sl, k_sea_sl, getS, getO, gS, zipN, dropW, takeW, wds, stvs, sea, seaL, refs, refsL, refsEls, refsO, isPureEls, isPures, isPure, noExt, noExts, noExtEls, cellsL, ren, renL, renEls, keepO, keepS, keysO, refsS, refsOB, cntN, headC, setS, boxO, row, putW, putB, putB1, eNl, newOs, frz, renO, noExtO, zps, zp, two32, w64, -getElem?_pos]
set_option maxHeartbeats 4000000 in
theorem step37 (M d : Nat) (g : SL → OB → Option R) (rs xs : List Int) (z : List PV) (hr : rs.length = 8) (h : ¬ xs.length < 64) : m37b0 (sem tab (M + 65) (d + 4)) (M + 65) [] g (sl37 (byL xs)) (ob37 (wL rs) z) = g (sl37 (byL (xs.drop 64))) (ob37 (wL (rnd rs (xs.take 64))) z) := by
  have h43 := L43 M d rs (xs.take 64) hr (by simp; omega)
  have hl := byL_len xs
  have hw := allW_by xs
  have ht := byL_take xs 64
  have hd := byL_drop xs 64
  have h1 : 64 ≤ ((byL xs).length : Int) := by omega
  have h2 : 64 ≤ (byL xs).length := by omega
  have hwt : allW 1 (byL (xs.take 64)) = true := allW_by _
  generalize byL xs = b at *
  generalize byL (xs.take 64) = b1 at *
  generalize byL (xs.drop 64) = b2 at *
  generalize wL rs = r at *
  generalize wL (rnd rs (xs.take 64)) = r2 at *
  simp -implicitDefEqProofs (maxSteps := 1000000) (disch := first | omega | rfl) [m37b0, sl37, ob37, box, h1, h2, hw, ht, hd, h43, k_g0, k_gs, k_bnd, k_bndO, k_br_t, k_br_f, k_br_u, k_agree, k_loop, k_add, k_sub, k_mul, k_lss, k_leq, k_gtr, k_geq, k_eql, k_neq, k_rem, k_quo, k_and, k_or, k_xor, k_shl, k_shr, k_seql, k_sneq, k_sadd, k_beql, k_bneq, k_not, k_neg, k_com, k_cv, k_pk, k_gd, k_gdt, k_gdO, k_gdOt, k_ext, k_fA, k_l1, k_l1b, k_l1q, k_l1qb, k_lN, k_lNq, k_atO, k_atE, k_aggO, k_takeO, k_blobAt, k_nthB, k_hd_i, k_hd_b, k_hd_s, k_hd_l, k_hd_e, k_hd_sl, k_rt_l, k_rt_i, k_rt_b, k_rt_s, k_rt_blob, k_st, k_stb, k_stX, k_stE, k_stD, k_stB, k_stG, k_stF, k_stP, k_stQ, k_puris0, k_puris, k_puriC, k_puri_i, k_puri_b, k_puri_l, k_c_agg, k_c_i, k_c_b, k_c_s, k_c_l, k_c_e, k_c_sl, k_c_p, k_sv_agg, k_sv_i, k_sv_b, k_sv_s, k_sv_l, k_sv_e, k_sv_sl, k_sc_i, k_sc_b, k_wd_i, k_wd_b, k_wd_s, k_wd_l, k_wd_e, k_wd_sl, k_wd_p, k_wd_blob, k_al, k_bx, k_new, k_len_l, k_len_e, k_len_sl, k_len_bs, k_lenS, k_cp_e, k_eNs_l, k_eNs_e, k_xS_l, k_xS_sl, k_xSO, k_elQ, k_xA, k_xAq, k_slc_l, k_slc_e, k_slc_sl, k_slL, k_slE, k_slO, k_opt0, k_opt1, k_map0, k_allW0, k_allW1, k_fe0, k_fe1, k_fs0, k_fs1, k_fl_i, k_fl_b, k_fl_l, k_ap, k_cont_l, k_cont_e, k_cont_s, k_cont_sl, k_contL_l, k_contL_e, k_contL_sl, k_contX, k_apC, k_apE_e, k_apE_sl, k_apO, k_apz, k_bldS0, k_bldS, k_bld, k_bldC0, k_bldC, k_eAr, k_b2s, k_b2sC, k_strO, k_ca0, k_ca0X, k_ca0R, k_reiN0, k_reiN1, k_rs1_0, k_rs_0, k_rl_0, k_re_0, k_rs1, k_rs, k_rl, k_re, k_r0_l, k_r0_e, k_r0_i, k_r0_b, k_r0_s, k_r0_blob, k_r0_sl, k_r0_bs, k_r1_agg, k_r1_l, k_r1_e, k_r1_i, k_r1_b, k_r1_s, k_r1_sl, k_r1_bs, k_contL_bs, k_contB, k_r_l, k_r_sl, k_back0, k_back1, k_one1, k_one2, k_handX, k_rowX, k_ca, k_ca_ei, k_fin1, k_fin2, k_res_b, k_res_i, k_res_s, k_res_l, k_res_e, k_res_agg, k_res_sl, k_head, k_head0, k_headF, k_headOK, k_hc0, k_asR_e, k_asR_sl, k_sea_sl, getS, getO, gS, zipN, dropW, takeW, wds, stvs, sea, seaL, refs, refsL, refsEls, refsO, isPureEls, isPures, isPure, noExt, noExts, noExtEls, cellsL, ren, renL, renEls, keepO, keepS, keysO, refsS, refsOB, cntN, headC, setS, boxO, row, putW, putB, putB1, eNl, newOs, frz, renO, noExtO, zps, zp, two32, w64, -getElem?_pos]
theorem loop37 : ∀ (n : Nat) (rs xs : List Int) (z : List PV) (M d M' : Nat), xs.length ≤ 64 * n → rs.length = 8 → loopC (m37b0 (sem tab (M + 65) (d + 4)) (M + 65) []) (M' + 1 + n) (sl37 (byL xs)) (ob37 (wL rs) z) = some (.tup [.agg [.blob 8 (wL (rounds rs xs).1)], .l false (byL (rounds rs xs).2)], []) := by
  intro n
  induction n with
  | zero =>
    intro rs xs z M d M' h hr
    rw [Nat.add_zero, k_loop, rounds_short (by omega)]
    exact end37 _ _ _ _ _ _ (by rw [byL_len]; omega)
  | succ n ih =>
    intro rs xs z M d M' h hr
    rw [show M' + 1 + (n + 1) = (M' + 1 + n) + 1 by omega, k_loop]
    by_cases hx : xs.length < 64
    · rw [rounds_short hx]
      exact end37 _ _ _ _ _ _ (by rw [byL_len]; omega)
    · rw [step37 M d _ rs xs z hr hx, rounds_long hx]
      exact ih _ _ z M d M' (by simp; omega) (rnd_len _ _ hr)
set_option maxHeartbeats 4000000 in
/-- Rounded by all whole blocks. -/
theorem L37 (M d : Nat) (rs xs : List Int) (hr : rs.length = 8) (hx : xs.length ≤ 64 * 900) : sem tab (M + 1000) (d + 5) 37 [.agg [.blob 8 (wL rs)], .l false (byL xs)] [] = some (.tup [.agg [.blob 8 (wL (rounds rs xs).1)], .l false (byL (rounds rs xs).2)], []) := by
  have h := loop37 900 rs xs (List.replicate 8 (.i .u32 0)) (M + 935) d (M + 99) hx hr
  rw [sem_succ tab (M + 1000) (d + 4) 37 m37 rfl]
  generalize byL xs = b at *
  generalize wL rs = r at *
  generalize hz : List.replicate 8 (PV.i IntKind.u32 0) = z at *
  simp only [sl37, ob37, box, Nat.add_assoc] at h
  simp -implicitDefEqProofs (maxSteps := 1000000) (disch := first | omega | rfl) [m37, hz, k_g0, k_gs, k_bnd, k_bndO, k_br_t, k_br_f, k_br_u, k_agree, k_loop, k_add, k_sub, k_mul, k_lss, k_leq, k_gtr, k_geq, k_eql, k_neq, k_rem, k_quo, k_and, k_or, k_xor, k_shl, k_shr, k_seql, k_sneq, k_sadd, k_beql, k_bneq, k_not, k_neg, k_com, k_cv, k_pk, k_gd, k_gdt, k_gdO, k_gdOt, k_ext, k_fA, k_l1, k_l1b, k_l1q, k_l1qb, k_lN, k_lNq, k_atO, k_atE, k_aggO, k_takeO, k_blobAt, k_nthB, k_hd_i, k_hd_b, k_hd_s, k_hd_l, k_hd_e, k_hd_sl, k_rt_l, k_rt_i, k_rt_b, k_rt_s, k_rt_blob, k_st, k_stb, k_stX, k_stE, k_stD, k_stB, k_stG, k_stF, k_stP, k_stQ, k_puris0, k_puris, k_puriC, k_puri_i, k_puri_b, k_puri_l, k_c_agg, k_c_i, k_c_b, k_c_s, k_c_l, k_c_e, k_c_sl, k_c_p, k_sv_agg, k_sv_i, k_sv_b, k_sv_s, k_sv_l, k_sv_e, k_sv_sl, k_sc_i, k_sc_b, k_wd_i, k_wd_b, k_wd_s, k_wd_l, k_wd_e, k_wd_sl, k_wd_p, k_wd_blob, k_al, k_bx, k_new, k_len_l, k_len_e, k_len_sl, k_len_bs, k_lenS, k_cp_e, k_eNs_l, k_eNs_e, k_xS_l, k_xS_sl, k_xSO, k_elQ, k_xA, k_xAq, k_slc_l, k_slc_e, k_slc_sl, k_slL, k_slE, k_slO, k_opt0, k_opt1, k_map0, k_allW0, k_allW1, k_fe0, k_fe1, k_fs0, k_fs1, k_fl_i, k_fl_b, k_fl_l, k_ap, k_cont_l, k_cont_e, k_cont_s, k_cont_sl, k_contL_l, k_contL_e, k_contL_sl, k_contX, k_apC, k_apE_e, k_apE_sl, k_apO, k_apz, k_bldS0, k_bldS, k_bld, k_bldC0, k_bldC, k_eAr, k_b2s, k_b2sC, k_strO, k_ca0, k_ca0X, k_ca0R, k_reiN0, k_reiN1, k_rs1_0, k_rs_0, k_rl_0, k_re_0, k_rs1, k_rs, k_rl, k_re, k_r0_l, k_r0_e, k_r0_i, k_r0_b, k_r0_s, k_r0_blob, k_r0_sl, k_r0_bs, k_r1_agg, k_r1_l, k_r1_e, k_r1_i, k_r1_b, k_r1_s, k_r1_sl, k_r1_bs, k_contL_bs, k_contB, k_r_l, k_r_sl, k_back0, k_back1, k_one1, k_one2, k_handX, k_rowX, k_ca, k_ca_ei, k_fin1, k_fin2, k_res_b, k_res_i, k_res_s, k_res_l, k_res_e, k_res_agg, k_res_sl, k_head, k_head0, k_headF, k_headOK, k_hc0, k_asR_e, k_asR_sl, k_sea_sl, getS, getO, gS, zipN, dropW, takeW, wds, stvs, sea, seaL, refs, refsL, refsEls, refsO, isPureEls, isPures, isPure, noExt, noExts, noExtEls, cellsL, ren, renL, renEls, keepO, keepS, keysO, refsS, refsOB, cntN, headC, setS, boxO, row, putW, putB, putB1, eNl, newOs, frz, renO, noExtO, zps, zp, two32, w64, -getElem?_pos]
  exact h
end Go.Proofs.YtbobbkgdbfcblaaDoor
