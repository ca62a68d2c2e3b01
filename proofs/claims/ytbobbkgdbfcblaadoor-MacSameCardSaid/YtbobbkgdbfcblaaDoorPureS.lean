/- Plain lemmas: two byte rows are the same. -/
import Derived.Test.YtbobbkgdbfcblaaDoorPureD
set_option linter.all false
set_option linter.unusedSimpArgs false
set_option linter.unusedVariables false
namespace Go.Proofs.YtbobbkgdbfcblaaDoor
open Go
def orX (acc x y : Int) : Int := IntKind.u8.wrap ((BitVec.ofInt 8 acc ||| BitVec.ofInt 8 (IntKind.u8.wrap ((BitVec.ofInt 8 x ^^^ BitVec.ofInt 8 y).toNat))).toNat)
theorem w8 {x : Int} (h : 0 ≤ x) (h' : x ≤ 255) : IntKind.u8.wrap x = x := by
  rw [IntKind.wrap_u8]; omega
theorem orX_law (A : BitVec 8) (x y : Int) : orX A.toNat x y = (A ||| (BitVec.ofInt 8 x ^^^ BitVec.ofInt 8 y)).toNat := by
  have h1 := (BitVec.ofInt 8 x ^^^ BitVec.ofInt 8 y).isLt
  have h2 := (A ||| (BitVec.ofInt 8 x ^^^ BitVec.ofInt 8 y)).isLt
  unfold orX
  have e : IntKind.u8.wrap ((BitVec.ofInt 8 x ^^^ BitVec.ofInt 8 y).toNat : Int) = (BitVec.ofInt 8 x ^^^ BitVec.ofInt 8 y).toNat := w8 (by omega) (by omega)
  rw [e, BitVec.ofInt_natCast, BitVec.ofInt_natCast, BitVec.ofNat_toNat, BitVec.ofNat_toNat, BitVec.setWidth_eq, BitVec.setWidth_eq, w8 (by omega) (by omega)]
theorem or0 (A X Y : BitVec 8) : A ||| (X ^^^ Y) = 0#8 ↔ A = 0#8 ∧ X = Y := by
  rw [BitVec.or_eq_zero_iff, BitVec.xor_eq_zero_iff]
theorem ofI_inj {x y : Int} (hx : 0 ≤ x ∧ x ≤ 255) (hy : 0 ≤ y ∧ y ≤ 255) : BitVec.ofInt 8 x = BitVec.ofInt 8 y ↔ x = y := by
  constructor
  · intro h
    have := congrArg BitVec.toNat h
    simp only [BitVec.toNat_ofInt] at this
    omega
  · rintro rfl; rfl
def sl32 (a b : List (List PV)) (acc n k : Int) : SL := [(0, .l false a), (1, .l false b), (5, .i .u8 acc), (13, .i .i64 n), (14, .i .i64 k)]
set_option maxHeartbeats 4000000 in
theorem step32 (N d : Nat) (g : SL → OB → Option R) (a b : List (List PV)) (acc x y n : Int) (k : Nat) (hk : (k : Int) < n) (hn : n ≤ 4294967296) (ha : a[k]? = some [.i .u8 x]) (hb : b[k]? = some [.i .u8 y]) :
    m32b0 (sem tab N d) N [] g (sl32 a b acc n k) [] = g (sl32 a b (orX acc x y) n (k + 1 : Nat)) [] := by
  have c3 : (0 : Int) ≤ k := by omega
  have w1 : IntKind.i64.wrap ((k : Int) + 1) = (k : Int) + 1 := w64 (by omega) (by omega)
  simp -implicitDefEqProofs (maxSteps := 1000000) (disch := first | omega | rfl) [m32b0, sl32, hk, c3, ha, hb, w1, k_g0, k_gs, k_bnd, k_bndO, k_br_t, k_br_f, k_br_u, k_agree, k_loop, k_add, k_sub, k_mul, k_lss, k_leq, k_gtr, k_geq, k_eql, k_neq, k_rem, k_quo, k_and, k_or, k_xor, k_shl, k_shr, k_seql, k_sneq, k_sadd, k_beql, k_bneq, k_not, k_neg, k_com, k_cv, k_pk, k_gd, k_gdt, k_gdO, k_gdOt, k_ext, k_fA, k_l1, k_l1b, k_l1q, k_l1qb, k_lN, k_lNq, k_atO, k_atE, k_aggO, k_takeO, k_blobAt, k_nthB, k_hd_i, k_hd_b, k_hd_s, k_hd_l, k_hd_e, k_hd_sl, k_rt_l, k_rt_i, k_rt_b, k_rt_s, k_rt_blob, k_st, k_stb, k_stX, k_stE, k_stD, k_stB, k_stG, k_stF, k_stP, k_stQ, k_puris0, k_puris, k_puriC, k_puri_i, k_puri_b, k_puri_l, k_c_agg, k_c_i, k_c_b, k_c_s, k_c_l, k_c_e, k_c_sl, k_c_p, k_sv_agg, k_sv_i, k_sv_b, k_sv_s, k_sv_l, k_sv_e, k_sv_sl, k_sc_i, k_sc_b, k_wd_i, k_wd_b, k_wd_s, k_wd_l, k_wd_e, k_wd_sl, k_wd_p, k_wd_blob, k_al, k_bx, k_new, k_len_l, k_len_e, k_len_sl, k_len_bs, k_lenS, k_cp_e, k_eNs_l, k_eNs_e, k_xS_l, k_xS_sl, k_xSO, k_elQ, k_xA, k_xAq, k_slc_l, k_slc_e, k_slc_sl, k_slL, k_slE, k_slO, k_opt0, k_opt1, k_map0, k_allW0, k_allW1, k_fe0, k_fe1, k_fs0, k_fs1, k_fl_i, k_fl_b, k_fl_l, k_ap, k_cont_l, k_cont_e, k_cont_s, k_cont_sl, k_contL_l, k_contL_e, k_contL_sl, k_contX, k_apC, k_apE_e, k_apE_sl, k_apO, k_apz, k_bldS0, k_bldS, k_bld, k_bldC0, k_bldC, k_eAr, k_b2s, k_b2sC, k_strO, k_ca0, k_ca0X, k_ca0R, k_reiN0, k_reiN1, k_rs1_0, k_rs_0, k_rl_0, k_re_0, k_rs1, k_rs, k_rl, k_re, k_r0_l, k_r0_e, k_r0_i, k_r0_b, k_r0_s, k_r0_blob, k_r0_sl, k_r0_bs, k_r1_agg, k_r1_l, k_r1_e, k_r1_i, k_r1_b, k_r1_s, k_r1_sl, k_r1_bs, k_contL_bs, k_contB, k_r_l, k_r_sl, k_back0, k_back1, k_one1, k_one2, k_handX, k_rowX, k_ca, k_ca_ei, k_fin1, k_fin2, k_res_b, k_res_i, k_res_s, k_res_l, k_res_e, k_res_agg, k_res_sl, k_head, k_head0, k_headF, k_headOK, k_hc0, k_asR_e, k_asR_sl, k_sea_sl, getS, getO, gS, zipN, dropW, takeW, wds, stvs, sea, seaL, refs, refsL, refsEls, refsO, isPureEls, isPures, isPure, noExt, noExts, noExtEls, cellsL, ren, renL, renEls, keepO, keepS, keysO, refsS, refsOB, cntN, headC, setS, boxO, row, putW, putB, putB1, eNl, newOs, frz, renO, noExtO, zps, zp, two32, w64, -getElem?_pos]
  rfl
set_option maxHeartbeats 4000000 in
theorem end32 (N d : Nat) (g : SL → OB → Option R) (a b : List (List PV)) (acc n : Int) :
    m32b0 (sem tab N d) N [] g (sl32 a b acc n n) [] = some (.b (acc == 0), []) := by
  simp -implicitDefEqProofs (maxSteps := 1000000) (disch := first | omega | rfl) [m32b0, sl32, k_g0, k_gs, k_bnd, k_bndO, k_br_t, k_br_f, k_br_u, k_agree, k_loop, k_add, k_sub, k_mul, k_lss, k_leq, k_gtr, k_geq, k_eql, k_neq, k_rem, k_quo, k_and, k_or, k_xor, k_shl, k_shr, k_seql, k_sneq, k_sadd, k_beql, k_bneq, k_not, k_neg, k_com, k_cv, k_pk, k_gd, k_gdt, k_gdO, k_gdOt, k_ext, k_fA, k_l1, k_l1b, k_l1q, k_l1qb, k_lN, k_lNq, k_atO, k_atE, k_aggO, k_takeO, k_blobAt, k_nthB, k_hd_i, k_hd_b, k_hd_s, k_hd_l, k_hd_e, k_hd_sl, k_rt_l, k_rt_i, k_rt_b, k_rt_s, k_rt_blob, k_st, k_stb, k_stX, k_stE, k_stD, k_stB, k_stG, k_stF, k_stP, k_stQ, k_puris0, k_puris, k_puriC, k_puri_i, k_puri_b, k_puri_l, k_c_agg, k_c_i, k_c_b, k_c_s, k_c_l, k_c_e, k_c_sl, k_c_p, k_sv_agg, k_sv_i, k_sv_b, k_sv_s, k_sv_l, k_sv_e, k_sv_sl, k_sc_i, k_sc_b, k_wd_i, k_wd_b, k_wd_s, k_wd_l, k_wd_e, k_wd_sl, k_wd_p, k_wd_blob, k_al, k_bx, k_new, k_len_l, k_len_e, k_len_sl, k_len_bs, k_lenS, k_cp_e, k_eNs_l, k_eNs_e, k_xS_l, k_xS_sl, k_xSO, k_elQ, k_xA, k_xAq, k_slc_l, k_slc_e, k_slc_sl, k_slL, k_slE, k_slO, k_opt0, k_opt1, k_map0, k_allW0, k_allW1, k_fe0, k_fe1, k_fs0, k_fs1, k_fl_i, k_fl_b, k_fl_l, k_ap, k_cont_l, k_cont_e, k_cont_s, k_cont_sl, k_contL_l, k_contL_e, k_contL_sl, k_contX, k_apC, k_apE_e, k_apE_sl, k_apO, k_apz, k_bldS0, k_bldS, k_bld, k_bldC0, k_bldC, k_eAr, k_b2s, k_b2sC, k_strO, k_ca0, k_ca0X, k_ca0R, k_reiN0, k_reiN1, k_rs1_0, k_rs_0, k_rl_0, k_re_0, k_rs1, k_rs, k_rl, k_re, k_r0_l, k_r0_e, k_r0_i, k_r0_b, k_r0_s, k_r0_blob, k_r0_sl, k_r0_bs, k_r1_agg, k_r1_l, k_r1_e, k_r1_i, k_r1_b, k_r1_s, k_r1_sl, k_r1_bs, k_contL_bs, k_contB, k_r_l, k_r_sl, k_back0, k_back1, k_one1, k_one2, k_handX, k_rowX, k_ca, k_ca_ei, k_fin1, k_fin2, k_res_b, k_res_i, k_res_s, k_res_l, k_res_e, k_res_agg, k_res_sl, k_head, k_head0, k_headF, k_headOK, k_hc0, k_asR_e, k_asR_sl, k_sea_sl, getS, getO, gS, zipN, dropW, takeW, wds, stvs, sea, seaL, refs, refsL, refsEls, refsO, isPureEls, isPures, isPure, noExt, noExts, noExtEls, cellsL, ren, renL, renEls, keepO, keepS, keysO, refsS, refsOB, cntN, headC, setS, boxO, row, putW, putB, putB1, eNl, newOs, frz, renO, noExtO, zps, zp, two32, w64, -getElem?_pos]
theorem loop32 (xs ys : List Int) (hl : xs.length = ys.length) (hx : ∀ n ∈ xs, 0 ≤ n ∧ n ≤ 255) (hy : ∀ n ∈ ys, 0 ≤ n ∧ n ≤ 255) (hm : xs.length ≤ 4294967296) : ∀ (n k : Nat) (A : BitVec 8), k + n = xs.length → ∀ N d M : Nat, loopC (m32b0 (sem tab N d) N []) (M + 1 + n) (sl32 (byL xs) (byL ys) A.toNat xs.length k) [] = some (.b (decide (A = 0#8 ∧ xs.drop k = ys.drop k)), []) := by
  intro n
  induction n with
  | zero =>
    intro k A hk N d M
    have : k = xs.length := by omega
    subst this
    rw [Nat.add_zero, k_loop, end32]
    have e1 : xs.drop xs.length = [] := List.drop_length
    have e2 : ys.drop xs.length = [] := by rw [hl]; exact List.drop_length
    rw [e1, e2]
    congr 3
    rw [Bool.eq_iff_iff]
    simp only [beq_iff_eq, decide_eq_true_eq, and_true]
    constructor
    · intro h
      apply BitVec.eq_of_toNat_eq
      simp only [BitVec.toNat_ofNat]; omega
    · rintro rfl; rfl
  | succ n ih =>
    intro k A hk N d M
    have kx : k < xs.length := by omega
    have ky : k < ys.length := by omega
    have gx : xs[k]? = some xs[k] := List.getElem?_eq_getElem kx
    have gy : ys[k]? = some ys[k] := List.getElem?_eq_getElem ky
    rw [show M + 1 + (n + 1) = (M + 1 + n) + 1 by omega, k_loop, step32 N d _ _ _ _ xs[k] ys[k] _ k (by omega) (by omega) (by rw [byL_get, gx]; rfl) (by rw [byL_get, gy]; rfl), orX_law]
    rw [ih (k + 1) _ (by omega)]
    congr 3
    rw [Bool.eq_iff_iff]
    simp only [decide_eq_true_eq]
    rw [or0, ofI_inj (hx _ (List.getElem_mem kx)) (hy _ (List.getElem_mem ky)), List.drop_eq_getElem_cons kx, List.drop_eq_getElem_cons ky, List.cons.injEq, and_assoc]
set_option maxHeartbeats 4000000 in
/-- Two byte rows are the same. -/
theorem L32 (M d : Nat) (xs ys : List Int) (hx : ∀ n ∈ xs, 0 ≤ n ∧ n ≤ 255) (hy : ∀ n ∈ ys, 0 ≤ n ∧ n ≤ 255) (hm : xs.length ≤ 900) : sem tab (M + 1000) (d + 1) 32 [.l false (byL xs), .l false (byL ys)] [] = some (.b (decide (xs = ys)), []) := by
  rw [sem_succ tab (M + 1000) d 32 m32 rfl]
  have hlx := byL_len xs
  have hly := byL_len ys
  by_cases hl : xs.length = ys.length
  · have h := loop32 xs ys hl hx hy (by omega) xs.length 0 0#8 (by omega) (M + 1000) d (M + 999 - xs.length)
    rw [show M + 999 - xs.length + 1 + xs.length = M + 1000 by omega] at h
    simp only [List.drop_zero, true_and] at h
    rw [← hlx] at h hl
    rw [← hly] at hl
    generalize byL xs = a at *
    generalize byL ys = b at *
    simp only [sl32] at h
    have e : (a.length : Int) = b.length := by omega
    have e2 : ((b.length : Int) != b.length) = false := by simp
    rw [hl] at h
    simp -implicitDefEqProofs (maxSteps := 1000000) (disch := first | omega | rfl) [m32, hl, e2, k_g0, k_gs, k_bnd, k_bndO, k_br_t, k_br_f, k_br_u, k_agree, k_loop, k_add, k_sub, k_mul, k_lss, k_leq, k_gtr, k_geq, k_eql, k_neq, k_rem, k_quo, k_and, k_or, k_xor, k_shl, k_shr, k_seql, k_sneq, k_sadd, k_beql, k_bneq, k_not, k_neg, k_com, k_cv, k_pk, k_gd, k_gdt, k_gdO, k_gdOt, k_ext, k_fA, k_l1, k_l1b, k_l1q, k_l1qb, k_lN, k_lNq, k_atO, k_atE, k_aggO, k_takeO, k_blobAt, k_nthB, k_hd_i, k_hd_b, k_hd_s, k_hd_l, k_hd_e, k_hd_sl, k_rt_l, k_rt_i, k_rt_b, k_rt_s, k_rt_blob, k_st, k_stb, k_stX, k_stE, k_stD, k_stB, k_stG, k_stF, k_stP, k_stQ, k_puris0, k_puris, k_puriC, k_puri_i, k_puri_b, k_puri_l, k_c_agg, k_c_i, k_c_b, k_c_s, k_c_l, k_c_e, k_c_sl, k_c_p, k_sv_agg, k_sv_i, k_sv_b, k_sv_s, k_sv_l, k_sv_e, k_sv_sl, k_sc_i, k_sc_b, k_wd_i, k_wd_b, k_wd_s, k_wd_l, k_wd_e, k_wd_sl, k_wd_p, k_wd_blob, k_al, k_bx, k_new, k_len_l, k_len_e, k_len_sl, k_len_bs, k_lenS, k_cp_e, k_eNs_l, k_eNs_e, k_xS_l, k_xS_sl, k_xSO, k_elQ, k_xA, k_xAq, k_slc_l, k_slc_e, k_slc_sl, k_slL, k_slE, k_slO, k_opt0, k_opt1, k_map0, k_allW0, k_allW1, k_fe0, k_fe1, k_fs0, k_fs1, k_fl_i, k_fl_b, k_fl_l, k_ap, k_cont_l, k_cont_e, k_cont_s, k_cont_sl, k_contL_l, k_contL_e, k_contL_sl, k_contX, k_apC, k_apE_e, k_apE_sl, k_apO, k_apz, k_bldS0, k_bldS, k_bld, k_bldC0, k_bldC, k_eAr, k_b2s, k_b2sC, k_strO, k_ca0, k_ca0X, k_ca0R, k_reiN0, k_reiN1, k_rs1_0, k_rs_0, k_rl_0, k_re_0, k_rs1, k_rs, k_rl, k_re, k_r0_l, k_r0_e, k_r0_i, k_r0_b, k_r0_s, k_r0_blob, k_r0_sl, k_r0_bs, k_r1_agg, k_r1_l, k_r1_e, k_r1_i, k_r1_b, k_r1_s, k_r1_sl, k_r1_bs, k_contL_bs, k_contB, k_r_l, k_r_sl, k_back0, k_back1, k_one1, k_one2, k_handX, k_rowX, k_ca, k_ca_ei, k_fin1, k_fin2, k_res_b, k_res_i, k_res_s, k_res_l, k_res_e, k_res_agg, k_res_sl, k_head, k_head0, k_headF, k_headOK, k_hc0, k_asR_e, k_asR_sl, k_sea_sl, getS, getO, gS, zipN, dropW, takeW, wds, stvs, sea, seaL, refs, refsL, refsEls, refsO, isPureEls, isPures, isPure, noExt, noExts, noExtEls, cellsL, ren, renL, renEls, keepO, keepS, keysO, refsS, refsOB, cntN, headC, setS, boxO, row, putW, putB, putB1, eNl, newOs, frz, renO, noExtO, zps, zp, two32, w64, -getElem?_pos]
    exact h
  · have hne : ¬ xs = ys := fun h => hl (by rw [h])
    rw [decide_eq_false hne]
    rw [← hlx, ← hly] at hl
    generalize byL xs = a at *
    generalize byL ys = b at *
    have e : ¬ (a.length : Int) = b.length := by omega
    have e2 : ((a.length : Int) != b.length) = true := by simp only [bne_iff_ne, ne_eq]; exact e
    simp -implicitDefEqProofs (maxSteps := 1000000) (disch := first | omega | rfl) [m32, hl, e, e2, k_g0, k_gs, k_bnd, k_bndO, k_br_t, k_br_f, k_br_u, k_agree, k_loop, k_add, k_sub, k_mul, k_lss, k_leq, k_gtr, k_geq, k_eql, k_neq, k_rem, k_quo, k_and, k_or, k_xor, k_shl, k_shr, k_seql, k_sneq, k_sadd, k_beql, k_bneq, k_not, k_neg, k_com, k_cv, k_pk, k_gd, k_gdt, k_gdO, k_gdOt, k_ext, k_fA, k_l1, k_l1b, k_l1q, k_l1qb, k_lN, k_lNq, k_atO, k_atE, k_aggO, k_takeO, k_blobAt, k_nthB, k_hd_i, k_hd_b, k_hd_s, k_hd_l, k_hd_e, k_hd_sl, k_rt_l, k_rt_i, k_rt_b, k_rt_s, k_rt_blob, k_st, k_stb, k_stX, k_stE, k_stD, k_stB, k_stG, k_stF, k_stP, k_stQ, k_puris0, k_puris, k_puriC, k_puri_i, k_puri_b, k_puri_l, k_c_agg, k_c_i, k_c_b, k_c_s, k_c_l, k_c_e, k_c_sl, k_c_p, k_sv_agg, k_sv_i, k_sv_b, k_sv_s, k_sv_l, k_sv_e, k_sv_sl, k_sc_i, k_sc_b, k_wd_i, k_wd_b, k_wd_s, k_wd_l, k_wd_e, k_wd_sl, k_wd_p, k_wd_blob, k_al, k_bx, k_new, k_len_l, k_len_e, k_len_sl, k_len_bs, k_lenS, k_cp_e, k_eNs_l, k_eNs_e, k_xS_l, k_xS_sl, k_xSO, k_elQ, k_xA, k_xAq, k_slc_l, k_slc_e, k_slc_sl, k_slL, k_slE, k_slO, k_opt0, k_opt1, k_map0, k_allW0, k_allW1, k_fe0, k_fe1, k_fs0, k_fs1, k_fl_i, k_fl_b, k_fl_l, k_ap, k_cont_l, k_cont_e, k_cont_s, k_cont_sl, k_contL_l, k_contL_e, k_contL_sl, k_contX, k_apC, k_apE_e, k_apE_sl, k_apO, k_apz, k_bldS0, k_bldS, k_bld, k_bldC0, k_bldC, k_eAr, k_b2s, k_b2sC, k_strO, k_ca0, k_ca0X, k_ca0R, k_reiN0, k_reiN1, k_rs1_0, k_rs_0, k_rl_0, k_re_0, k_rs1, k_rs, k_rl, k_re, k_r0_l, k_r0_e, k_r0_i, k_r0_b, k_r0_s, k_r0_blob, k_r0_sl, k_r0_bs, k_r1_agg, k_r1_l, k_r1_e, k_r1_i, k_r1_b, k_r1_s, k_r1_sl, k_r1_bs, k_contL_bs, k_contB, k_r_l, k_r_sl, k_back0, k_back1, k_one1, k_one2, k_handX, k_rowX, k_ca, k_ca_ei, k_fin1, k_fin2, k_res_b, k_res_i, k_res_s, k_res_l, k_res_e, k_res_agg, k_res_sl, k_head, k_head0, k_headF, k_headOK, k_hc0, k_asR_e, k_asR_sl, k_sea_sl, getS, getO, gS, zipN, dropW, takeW, wds, stvs, sea, seaL, refs, refsL, refsEls, refsO, isPureEls, isPures, isPure, noExt, noExts, noExtEls, cellsL, ren, renL, renEls, keepO, keepS, keysO, refsS, refsOB, cntN, headC, setS, boxO, row, putW, putB, putB1, eNl, newOs, frz, renO, noExtO, zps, zp, two32, w64, -getElem?_pos]
end Go.Proofs.YtbobbkgdbfcblaaDoor
