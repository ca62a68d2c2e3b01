/- Plain lemmas: the sum at the end; two states are the same. -/
import Derived.Test.YtbobbkgdbfcblaaDoorPureF
set_option linter.all false
set_option linter.unusedSimpArgs false
set_option linter.unusedVariables false
namespace Go.Proofs.YtbobbkgdbfcblaaDoor
open Go
theorem eqIs_self : ∀ (k : IntKind) (ns : List Int), eqIs (ns.map (.i k)) (ns.map (.i k)) = some true
  | k, [] => rfl
  | k, n :: r => by simp [eqIs, eqI, eqIs_self k r]
/-- A byte row's letters. -/
def chars (xs : List Int) : List UInt8 := xs.map fun n => UInt8.ofNat n.toNat
theorem unB_by : ∀ xs : List Int, unB (byL xs) = some (chars xs)
  | [] => rfl
  | x :: r => by
    have := unB_by r
    simp only [byL, chars] at this
    simp only [byL, List.map_cons, unB, this, unC, chars]
set_option maxHeartbeats 4000000 in
theorem L18 (N d : Nat) (ns xs : List Int) (L : Int) : sem tab N (d + 1) 18 [hashV ns false xs L, hashV ns false xs L] [] = some (.b true, []) := by
  rw [sem_succ tab N d 18 m18 rfl]
  have hu := unB_by xs
  have he := eqIs_self .u32 ns
  simp only [hashV_wL]
  change eqIs (wL ns) (wL ns) = some true at he
  generalize byL xs = a at *
  generalize wL ns = r at *
  generalize chars xs = c at *
  simp -implicitDefEqProofs (maxSteps := 1000000) (disch := first | omega | rfl) [m18, hu, he, k_g0, k_gs, k_bnd, k_bndO, k_br_t, k_br_f, k_br_u, k_agree, k_loop, k_add, k_sub, k_mul, k_lss, k_leq, k_gtr, k_geq, k_eql, k_neq, k_rem, k_quo, k_and, k_or, k_xor, k_shl, k_shr, k_seql, k_sneq, k_sadd, k_beql, k_bneq, k_not, k_neg, k_com, k_cv, k_pk, k_gd, k_gdt, k_gdO, k_gdOt, k_ext, k_fA, k_l1, k_l1b, k_l1q, k_l1qb, k_lN, k_lNq, k_atO, k_atE, k_aggO, k_takeO, k_blobAt, k_nthB, k_hd_i, k_hd_b, k_hd_s, k_hd_l, k_hd_e, k_hd_sl, k_rt_l, k_rt_i, k_rt_b, k_rt_s, k_rt_blob, k_st, k_stb, k_stX, k_stE, k_stD, k_stB, k_stG, k_stF, k_stP, k_stQ, k_puris0, k_puris, k_puriC, k_puri_i, k_puri_b, k_puri_l, k_c_agg, k_c_i, k_c_b, k_c_s, k_c_l, k_c_e, k_c_sl, k_c_p, k_sv_agg, k_sv_i, k_sv_b, k_sv_s, k_sv_l, k_sv_e, k_sv_sl, k_sc_i, k_sc_b, k_wd_i, k_wd_b, k_wd_s, k_wd_l, k_wd_e, k_wd_sl, k_wd_p, k_wd_blob, k_al, k_bx, k_new, k_len_l, k_len_e, k_len_sl, k_len_bs, k_lenS, k_cp_e, k_eNs_l, k_eNs_e, k_xS_l, k_xS_sl, k_xSO, k_elQ, k_xA, k_xAq, k_slc_l, k_slc_e, k_slc_sl, k_slL, k_slE, k_slO, k_opt0, k_opt1, k_map0, k_allW0, k_allW1, k_fe0, k_fe1, k_fs0, k_fs1, k_fl_i, k_fl_b, k_fl_l, k_ap, k_cont_l, k_cont_e, k_cont_s, k_cont_sl, k_contL_l, k_contL_e, k_contL_sl, k_contX, k_apC, k_apE_e, k_apE_sl, k_apO, k_apz, k_bldS0, k_bldS, k_bld, k_bldC0, k_bldC, k_eAr, k_b2s, k_b2sC, k_strO, k_ca0, k_ca0X, k_ca0R, k_reiN0, k_reiN1, k_rs1_0, k_rs_0, k_rl_0, k_re_0, k_rs1, k_rs, k_rl, k_re, k_r0_l, k_r0_e, k_r0_i, k_r0_b, k_r0_s, k_r0_blob, k_r0_sl, k_r0_bs, k_r1_agg, k_r1_l, k_r1_e, k_r1_i, k_r1_b, k_r1_s, k_r1_sl, k_r1_bs, k_contL_bs, k_contB, k_r_l, k_r_sl, k_back0, k_back1, k_one1, k_one2, k_handX, k_rowX, k_ca, k_ca_ei, k_fin1, k_fin2, k_res_b, k_res_i, k_res_s, k_res_l, k_res_e, k_res_agg, k_res_sl, k_head, k_head0, k_headF, k_headOK, k_hc0, k_asR_e, k_asR_sl, k_sea_sl, getS, getO, gS, zipN, dropW, takeW, wds, stvs, sea, seaL, refs, refsL, refsEls, refsO, isPureEls, isPures, isPure, noExt, noExts, noExtEls, cellsL, ren, renL, renEls, keepO, keepS, keysO, refsS, refsOB, cntN, headC, setS, boxO, row, putW, putB, putB1, eNl, newOs, frz, renO, noExtO, zps, zp, two32, w64, -getElem?_pos]
def sl24 (n : Nat) : SL := [(1, .p 72 0 0 0 none), (2, .p 80 0 0 0 none), (3, .sl 95 0 0 n)]
def ob24 (hc z : List PV) (t : List (List PV)) : OB := [(95, row t 1 true), (72, box [] 10 |> fun X => { X with els := [hc] }), (80, box [.blob 32 z] 32)]
def sl24b (n : Nat) (v k : Int) : SL := [(1, .p 72 0 0 0 none), (2, .p 80 0 0 0 none), (3, .sl 95 0 0 n), (4, .i .u64 v), (31, .i .i64 k)]
def sl24a (r : List PV) (k : Int) : SL := [(2, .p 80 0 0 0 none), (8, .p 128 0 0 0 none), (51, .agg [.blob 8 r]), (52, .i .i64 k)]
def ob24a (z o : List PV) : OB := [(80, box [.blob 32 z] 32), (128, box [.blob 32 o] 32)]
set_option maxHeartbeats 4000000 in
theorem step24c (N d : Nat) (g : SL → OB → Option R) (r a z : List PV) (b t : List (List PV)) (L : Int) (h : ((t.length : Int).tmod 64) ≠ 56) (hl : t.length ≤ 4294967295) :
    m24b2 (sem tab N d) N [] g (sl24 t.length) (ob24 [.blob 8 r, .l false b, .i .i64 L] z t) = g (sl24 (t.length + 1)) (ob24 [.blob 8 r, .l false b, .i .i64 L] z (t ++ [[.i .u8 0]])) := by
  have h1 : ((t.length : Int).tmod 64 == 56) = false := by simpa using h
  have h4 : ((t.length : Int).tmod 64 != 56) = true := by simpa using h
  have h3 : ¬ (t.length + 1 ≤ t.length) := by omega
  have h2 : t.length + 1 ≤ 4294967296 := by omega
  have ht : List.take t.length t = t := List.take_length
  simp -implicitDefEqProofs (maxSteps := 1000000) (disch := first | omega | rfl) [m24b2, sl24, ob24, box, h, h1, h2, h3, h4, ht, k_g0, k_gs, k_bnd, k_bndO, k_br_t, k_br_f, k_br_u, k_agree, k_loop, k_add, k_sub, k_mul, k_lss, k_leq, k_gtr, k_geq, k_eql, k_neq, k_rem, k_quo, k_and, k_or, k_xor, k_shl, k_shr, k_seql, k_sneq, k_sadd, k_beql, k_bneq, k_not, k_neg, k_com, k_cv, k_pk, k_gd, k_gdt, k_gdO, k_gdOt, k_ext, k_fA, k_l1, k_l1b, k_l1q, k_l1qb, k_lN, k_lNq, k_atO, k_atE, k_aggO, k_takeO, k_blobAt, k_nthB, k_hd_i, k_hd_b, k_hd_s, k_hd_l, k_hd_e, k_hd_sl, k_rt_l, k_rt_i, k_rt_b, k_rt_s, k_rt_blob, k_st, k_stb, k_stX, k_stE, k_stD, k_stB, k_stG, k_stF, k_stP, k_stQ, k_puris0, k_puris, k_puriC, k_puri_i, k_puri_b, k_puri_l, k_c_agg, k_c_i, k_c_b, k_c_s, k_c_l, k_c_e, k_c_sl, k_c_p, k_sv_agg, k_sv_i, k_sv_b, k_sv_s, k_sv_l, k_sv_e, k_sv_sl, k_sc_i, k_sc_b, k_wd_i, k_wd_b, k_wd_s, k_wd_l, k_wd_e, k_wd_sl, k_wd_p, k_wd_blob, k_al, k_bx, k_new, k_len_l, k_len_e, k_len_sl, k_len_bs, k_lenS, k_cp_e, k_eNs_l, k_eNs_e, k_xS_l, k_xS_sl, k_xSO, k_elQ, k_xA, k_xAq, k_slc_l, k_slc_e, k_slc_sl, k_slL, k_slE, k_slO, k_opt0, k_opt1, k_map0, k_allW0, k_allW1, k_fe0, k_fe1, k_fs0, k_fs1, k_fl_i, k_fl_b, k_fl_l, k_ap, k_cont_l, k_cont_e, k_cont_s, k_cont_sl, k_contL_l, k_contL_e, k_contL_sl, k_contX, k_apC, k_apE_e, k_apE_sl, k_apO, k_apz, k_bldS0, k_bldS, k_bld, k_bldC0, k_bldC, k_eAr, k_b2s, k_b2sC, k_strO, k_ca0, k_ca0X, k_ca0R, k_reiN0, k_reiN1, k_rs1_0, k_rs_0, k_rl_0, k_re_0, k_rs1, k_rs, k_rl, k_re, k_r0_l, k_r0_e, k_r0_i, k_r0_b, k_r0_s, k_r0_blob, k_r0_sl, k_r0_bs, k_r1_agg, k_r1_l, k_r1_e, k_r1_i, k_r1_b, k_r1_s, k_r1_sl, k_r1_bs, k_contL_bs, k_contB, k_r_l, k_r_sl, k_back0, k_back1, k_one1, k_one2, k_handX, k_rowX, k_ca, k_ca_ei, k_fin1, k_fin2, k_res_b, k_res_i, k_res_s, k_res_l, k_res_e, k_res_agg, k_res_sl, k_head, k_head0, k_headF, k_headOK, k_hc0, k_asR_e, k_asR_sl, k_sea_sl, getS, getO, gS, zipN, dropW, takeW, wds, stvs, sea, seaL, refs, refsL, refsEls, refsO, isPureEls, isPures, isPure, noExt, noExts, noExtEls, cellsL, ren, renL, renEls, keepO, keepS, keysO, refsS, refsOB, cntN, headC, setS, boxO, row, putW, putB, putB1, eNl, newOs, frz, renO, noExtO, zps, zp, two32, w64, -getElem?_pos]
set_option maxHeartbeats 4000000 in
theorem mid24c (r z : List PV) (b t : List (List PV)) (L : Int) (h : ((t.length : Int).tmod 64) = 56) :
    ∃ v, ∀ (N d : Nat) (g : SL → OB → Option R), m24b2 (sem tab N d) N [] g (sl24 t.length) (ob24 [.blob 8 r, .l false b, .i .i64 L] z t) = loopC (m24b1 (sem tab N d) N []) N (sl24b t.length v 0) (ob24 [.blob 8 r, .l false b, .i .i64 L] z t) := by
  have ht : List.take t.length t = t := List.take_length
  apply Exists.intro
  intro N d g
  simp -implicitDefEqProofs (maxSteps := 1000000) (disch := first | omega | rfl) [m24b2, sl24, ob24, sl24b, box, h, ht, k_g0, k_gs, k_bnd, k_bndO, k_br_t, k_br_f, k_br_u, k_agree, k_loop, k_add, k_sub, k_mul, k_lss, k_leq, k_gtr, k_geq, k_eql, k_neq, k_rem, k_quo, k_and, k_or, k_xor, k_shl, k_shr, k_seql, k_sneq, k_sadd, k_beql, k_bneq, k_not, k_neg, k_com, k_cv, k_pk, k_gd, k_gdt, k_gdO, k_gdOt, k_ext, k_fA, k_l1, k_l1b, k_l1q, k_l1qb, k_lN, k_lNq, k_atO, k_atE, k_aggO, k_takeO, k_blobAt, k_nthB, k_hd_i, k_hd_b, k_hd_s, k_hd_l, k_hd_e, k_hd_sl, k_rt_l, k_rt_i, k_rt_b, k_rt_s, k_rt_blob, k_st, k_stb, k_stX, k_stE, k_stD, k_stB, k_stG, k_stF, k_stP, k_stQ, k_puris0, k_puris, k_puriC, k_puri_i, k_puri_b, k_puri_l, k_c_agg, k_c_i, k_c_b, k_c_s, k_c_l, k_c_e, k_c_sl, k_c_p, k_sv_agg, k_sv_i, k_sv_b, k_sv_s, k_sv_l, k_sv_e, k_sv_sl, k_sc_i, k_sc_b, k_wd_i, k_wd_b, k_wd_s, k_wd_l, k_wd_e, k_wd_sl, k_wd_p, k_wd_blob, k_al, k_bx, k_new, k_len_l, k_len_e, k_len_sl, k_len_bs, k_lenS, k_cp_e, k_eNs_l, k_eNs_e, k_xS_l, k_xS_sl, k_xSO, k_elQ, k_xA, k_xAq, k_slc_l, k_slc_e, k_slc_sl, k_slL, k_slE, k_slO, k_opt0, k_opt1, k_map0, k_allW0, k_allW1, k_fe0, k_fe1, k_fs0, k_fs1, k_fl_i, k_fl_b, k_fl_l, k_ap, k_cont_l, k_cont_e, k_cont_s, k_cont_sl, k_contL_l, k_contL_e, k_contL_sl, k_contX, k_apC, k_apE_e, k_apE_sl, k_apO, k_apz, k_bldS0, k_bldS, k_bld, k_bldC0, k_bldC, k_eAr, k_b2s, k_b2sC, k_strO, k_ca0, k_ca0X, k_ca0R, k_reiN0, k_reiN1, k_rs1_0, k_rs_0, k_rl_0, k_re_0, k_rs1, k_rs, k_rl, k_re, k_r0_l, k_r0_e, k_r0_i, k_r0_b, k_r0_s, k_r0_blob, k_r0_sl, k_r0_bs, k_r1_agg, k_r1_l, k_r1_e, k_r1_i, k_r1_b, k_r1_s, k_r1_sl, k_r1_bs, k_contL_bs, k_contB, k_r_l, k_r_sl, k_back0, k_back1, k_one1, k_one2, k_handX, k_rowX, k_ca, k_ca_ei, k_fin1, k_fin2, k_res_b, k_res_i, k_res_s, k_res_l, k_res_e, k_res_agg, k_res_sl, k_head, k_head0, k_headF, k_headOK, k_hc0, k_asR_e, k_asR_sl, k_sea_sl, getS, getO, gS, zipN, dropW, takeW, wds, stvs, sea, seaL, refs, refsL, refsEls, refsO, isPureEls, isPures, isPure, noExt, noExts, noExtEls, cellsL, ren, renL, renEls, keepO, keepS, keysO, refsS, refsOB, cntN, headC, setS, boxO, row, putW, putB, putB1, eNl, newOs, frz, renO, noExtO, zps, zp, two32, w64, -getElem?_pos]
  rfl
set_option maxHeartbeats 4000000 in
theorem step24b (r z : List PV) (b t : List (List PV)) (L v : Int) (k : Nat) (hk : k < 8) (hl : t.length ≤ 4294967295) :
    ∃ y, ∀ (N d : Nat) (g : SL → OB → Option R), m24b1 (sem tab N d) N [] g (sl24b t.length v k) (ob24 [.blob 8 r, .l false b, .i .i64 L] z t) = g (sl24b (t.length + 1) v (k + 1 : Nat)) (ob24 [.blob 8 r, .l false b, .i .i64 L] z (t ++ [[.i .u8 y]])) := by
  have c1 : (k : Int) < 8 := by omega
  have c2 : ¬ (56 - 8 * (k : Int) < 0) := by omega
  have h2 : t.length + 1 ≤ 4294967296 := by omega
  have h3 : ¬ (t.length + 1 ≤ t.length) := by omega
  have ht : List.take t.length t = t := List.take_length
  have w1 : IntKind.i64.wrap (56 - 8 * (k : Int)) = 56 - 8 * (k : Int) := w64 (by omega) (by omega)
  apply Exists.intro
  intro N d g
  simp -implicitDefEqProofs (maxSteps := 1000000) (disch := first | omega | rfl) [m24b1, sl24b, ob24, box, hk, c1, c2, w1, h2, h3, ht, k_g0, k_gs, k_bnd, k_bndO, k_br_t, k_br_f, k_br_u, k_agree, k_loop, k_add, k_sub, k_mul, k_lss, k_leq, k_gtr, k_geq, k_eql, k_neq, k_rem, k_quo, k_and, k_or, k_xor, k_shl, k_shr, k_seql, k_sneq, k_sadd, k_beql, k_bneq, k_not, k_neg, k_com, k_cv, k_pk, k_gd, k_gdt, k_gdO, k_gdOt, k_ext, k_fA, k_l1, k_l1b, k_l1q, k_l1qb, k_lN, k_lNq, k_atO, k_atE, k_aggO, k_takeO, k_blobAt, k_nthB, k_hd_i, k_hd_b, k_hd_s, k_hd_l, k_hd_e, k_hd_sl, k_rt_l, k_rt_i, k_rt_b, k_rt_s, k_rt_blob, k_st, k_stb, k_stX, k_stE, k_stD, k_stB, k_stG, k_stF, k_stP, k_stQ, k_puris0, k_puris, k_puriC, k_puri_i, k_puri_b, k_puri_l, k_c_agg, k_c_i, k_c_b, k_c_s, k_c_l, k_c_e, k_c_sl, k_c_p, k_sv_agg, k_sv_i, k_sv_b, k_sv_s, k_sv_l, k_sv_e, k_sv_sl, k_sc_i, k_sc_b, k_wd_i, k_wd_b, k_wd_s, k_wd_l, k_wd_e, k_wd_sl, k_wd_p, k_wd_blob, k_al, k_bx, k_new, k_len_l, k_len_e, k_len_sl, k_len_bs, k_lenS, k_cp_e, k_eNs_l, k_eNs_e, k_xS_l, k_xS_sl, k_xSO, k_elQ, k_xA, k_xAq, k_slc_l, k_slc_e, k_slc_sl, k_slL, k_slE, k_slO, k_opt0, k_opt1, k_map0, k_allW0, k_allW1, k_fe0, k_fe1, k_fs0, k_fs1, k_fl_i, k_fl_b, k_fl_l, k_ap, k_cont_l, k_cont_e, k_cont_s, k_cont_sl, k_contL_l, k_contL_e, k_contL_sl, k_contX, k_apC, k_apE_e, k_apE_sl, k_apO, k_apz, k_bldS0, k_bldS, k_bld, k_bldC0, k_bldC, k_eAr, k_b2s, k_b2sC, k_strO, k_ca0, k_ca0X, k_ca0R, k_reiN0, k_reiN1, k_rs1_0, k_rs_0, k_rl_0, k_re_0, k_rs1, k_rs, k_rl, k_re, k_r0_l, k_r0_e, k_r0_i, k_r0_b, k_r0_s, k_r0_blob, k_r0_sl, k_r0_bs, k_r1_agg, k_r1_l, k_r1_e, k_r1_i, k_r1_b, k_r1_s, k_r1_sl, k_r1_bs, k_contL_bs, k_contB, k_r_l, k_r_sl, k_back0, k_back1, k_one1, k_one2, k_handX, k_rowX, k_ca, k_ca_ei, k_fin1, k_fin2, k_res_b, k_res_i, k_res_s, k_res_l, k_res_e, k_res_agg, k_res_sl, k_head, k_head0, k_headF, k_headOK, k_hc0, k_asR_e, k_asR_sl, k_sea_sl, getS, getO, gS, zipN, dropW, takeW, wds, stvs, sea, seaL, refs, refsL, refsEls, refsO, isPureEls, isPures, isPure, noExt, noExts, noExtEls, cellsL, ren, renL, renEls, keepO, keepS, keysO, refsS, refsOB, cntN, headC, setS, boxO, row, putW, putB, putB1, eNl, newOs, frz, renO, noExtO, zps, zp, two32, w64, -getElem?_pos]
  rfl
set_option maxHeartbeats 4000000 in
theorem mid24b (M d : Nat) (g : SL → OB → Option R) (rs ts : List Int) (b : List (List PV)) (L v : Int) (z : List PV) (hr : rs.length = 8) (hl : ts.length ≤ 57600) :
    m24b1 (sem tab (M + 1000) (d + 5)) (M + 1000) [] g (sl24b ts.length v 8) (ob24 [.blob 8 (wL rs), .l false b, .i .i64 L] z (byL ts)) = loopC (m24b0 (sem tab (M + 1000) (d + 5)) (M + 1000) []) (M + 1000) (sl24a (wL (rounds rs ts).1) 0) (ob24a z (List.replicate 32 (.i .u8 0))) := by
  have h37 := L37 M d rs ts hr (by omega)
  have hl' := byL_len ts
  have ht : List.take ts.length (byL ts) = byL ts := List.take_of_length_le (by omega)
  rw [← hl'] at hl ht ⊢
  generalize byL ts = t at *
  generalize byL (rounds rs ts).2 = q at *
  generalize wL (rounds rs ts).1 = r2 at *
  generalize wL rs = r at *
  generalize hz : List.replicate 32 (PV.i IntKind.u8 0) = zz at *
  generalize hz2 : List.replicate 8 (PV.i IntKind.u32 0) = zz2 at *
  simp -implicitDefEqProofs (maxSteps := 1000000) (disch := first | omega | rfl) [m24b1, sl24b, ob24, sl24a, ob24a, box, h37, ht, hz, hz2, k_g0, k_gs, k_bnd, k_bndO, k_br_t, k_br_f, k_br_u, k_agree, k_loop, k_add, k_sub, k_mul, k_lss, k_leq, k_gtr, k_geq, k_eql, k_neq, k_rem, k_quo, k_and, k_or, k_xor, k_shl, k_shr, k_seql, k_sneq, k_sadd, k_beql, k_bneq, k_not, k_neg, k_com, k_cv, k_pk, k_gd, k_gdt, k_gdO, k_gdOt, k_ext, k_fA, k_l1, k_l1b, k_l1q, k_l1qb, k_lN, k_lNq, k_atO, k_atE, k_aggO, k_takeO, k_blobAt, k_nthB, k_hd_i, k_hd_b, k_hd_s, k_hd_l, k_hd_e, k_hd_sl, k_rt_l, k_rt_i, k_rt_b, k_rt_s, k_rt_blob, k_st, k_stb, k_stX, k_stE, k_stD, k_stB, k_stG, k_stF, k_stP, k_stQ, k_puris0, k_puris, k_puriC, k_puri_i, k_puri_b, k_puri_l, k_c_agg, k_c_i, k_c_b, k_c_s, k_c_l, k_c_e, k_c_sl, k_c_p, k_sv_agg, k_sv_i, k_sv_b, k_sv_s, k_sv_l, k_sv_e, k_sv_sl, k_sc_i, k_sc_b, k_wd_i, k_wd_b, k_wd_s, k_wd_l, k_wd_e, k_wd_sl, k_wd_p, k_wd_blob, k_al, k_bx, k_new, k_len_l, k_len_e, k_len_sl, k_len_bs, k_lenS, k_cp_e, k_eNs_l, k_eNs_e, k_xS_l, k_xS_sl, k_xSO, k_elQ, k_xA, k_xAq, k_slc_l, k_slc_e, k_slc_sl, k_slL, k_slE, k_slO, k_opt0, k_opt1, k_map0, k_allW0, k_allW1, k_fe0, k_fe1, k_fs0, k_fs1, k_fl_i, k_fl_b, k_fl_l, k_ap, k_cont_l, k_cont_e, k_cont_s, k_cont_sl, k_contL_l, k_contL_e, k_contL_sl, k_contX, k_apC, k_apE_e, k_apE_sl, k_apO, k_apz, k_bldS0, k_bldS, k_bld, k_bldC0, k_bldC, k_eAr, k_b2s, k_b2sC, k_strO, k_ca0, k_ca0X, k_ca0R, k_reiN0, k_reiN1, k_rs1_0, k_rs_0, k_rl_0, k_re_0, k_rs1, k_rs, k_rl, k_re, k_r0_l, k_r0_e, k_r0_i, k_r0_b, k_r0_s, k_r0_blob, k_r0_sl, k_r0_bs, k_r1_agg, k_r1_l, k_r1_e, k_r1_i, k_r1_b, k_r1_s, k_r1_sl, k_r1_bs, k_contL_bs, k_contB, k_r_l, k_r_sl, k_back0, k_back1, k_one1, k_one2, k_handX, k_rowX, k_ca, k_ca_ei, k_fin1, k_fin2, k_res_b, k_res_i, k_res_s, k_res_l, k_res_e, k_res_agg, k_res_sl, k_head, k_head0, k_headF, k_headOK, k_hc0, k_asR_e, k_asR_sl, k_sea_sl, getS, getO, gS, zipN, dropW, takeW, wds, stvs, sea, seaL, refs, refsL, refsEls, refsO, isPureEls, isPures, isPure, noExt, noExts, noExtEls, cellsL, ren, renL, renEls, keepO, keepS, keysO, refsS, refsOB, cntN, headC, setS, boxO, row, putW, putB, putB1, eNl, newOs, frz, renO, noExtO, zps, zp, two32, w64, -getElem?_pos]
set_option maxHeartbeats 4000000 in
theorem step24a (r z o : List PV) (k : Nat) (x : Int) (hk : k < 8) (hx : r[k]? = some (.i .u32 x)) (ho : o.length = 32) :
    ∃ y0 y1 y2 y3, ∀ (N d : Nat) (g : SL → OB → Option R), m24b0 (sem tab N d) N [] g (sl24a r k) (ob24a z o) = g (sl24a r (k + 1 : Nat)) (ob24a z ((((o.set (4 * k) (.i .u8 y0)).set (4 * k + 1) (.i .u8 y1)).set (4 * k + 2) (.i .u8 y2)).set (4 * k + 3) (.i .u8 y3))) := by
  have c1 : (k : Int) < 8 := by omega
  have c3 : (0 : Int) ≤ k := by omega
  have c4 : (0 : Int) ≤ 4 * (k : Int) := by omega
  have c5 : (0 : Int) ≤ 4 * (k : Int) + 1 := by omega
  have c6 : (0 : Int) ≤ 4 * (k : Int) + 2 := by omega
  have c7 : (0 : Int) ≤ 4 * (k : Int) + 3 := by omega
  have d4 : 4 * (k : Int) < 32 := by omega
  have d5 : 4 * (k : Int) + 1 < 32 := by omega
  have d6 : 4 * (k : Int) + 2 < 32 := by omega
  have d7 : 4 * (k : Int) + 3 < 32 := by omega
  have t4 : (4 * (k : Int)).toNat = 4 * k := by omega
  have t5 : (4 * (k : Int) + 1).toNat = 4 * k + 1 := by omega
  have t6 : (4 * (k : Int) + 2).toNat = 4 * k + 2 := by omega
  have t7 : (4 * (k : Int) + 3).toNat = 4 * k + 3 := by omega
  have b4 : 4 * k < 32 := by omega
  have b5 : 4 * k + 1 < 32 := by omega
  have b6 : 4 * k + 2 < 32 := by omega
  have b7 : 4 * k + 3 < 32 := by omega
  apply Exists.intro
  apply Exists.intro
  apply Exists.intro
  apply Exists.intro
  intro N d g
  simp -implicitDefEqProofs (maxSteps := 1000000) (disch := first | omega | rfl) [m24b0, sl24a, ob24a, box, xV, hk, hx, ho, c1, c3, c4, c5, c6, c7, d4, d5, d6, d7, t4, t5, t6, t7, b4, b5, b6, b7, k_g0, k_gs, k_bnd, k_bndO, k_br_t, k_br_f, k_br_u, k_agree, k_loop, k_add, k_sub, k_mul, k_lss, k_leq, k_gtr, k_geq, k_eql, k_neq, k_rem, k_quo, k_and, k_or, k_xor, k_shl, k_shr, k_seql, k_sneq, k_sadd, k_beql, k_bneq, k_not, k_neg, k_com, k_cv, k_pk, k_gd, k_gdt, k_gdO, k_gdOt, k_ext, k_fA, k_l1, k_l1b, k_l1q, k_l1qb, k_lN, k_lNq, k_atO, k_atE, k_aggO, k_takeO, k_blobAt, k_nthB, k_hd_i, k_hd_b, k_hd_s, k_hd_l, k_hd_e, k_hd_sl, k_rt_l, k_rt_i, k_rt_b, k_rt_s, k_rt_blob, k_st, k_stb, k_stX, k_stE, k_stD, k_stB, k_stG, k_stF, k_stP, k_stQ, k_puris0, k_puris, k_puriC, k_puri_i, k_puri_b, k_puri_l, k_c_agg, k_c_i, k_c_b, k_c_s, k_c_l, k_c_e, k_c_sl, k_c_p, k_sv_agg, k_sv_i, k_sv_b, k_sv_s, k_sv_l, k_sv_e, k_sv_sl, k_sc_i, k_sc_b, k_wd_i, k_wd_b, k_wd_s, k_wd_l, k_wd_e, k_wd_sl, k_wd_p, k_wd_blob, k_al, k_bx, k_new, k_len_l, k_len_e, k_len_sl, k_len_bs, k_lenS, k_cp_e, k_eNs_l, k_eNs_e, k_xS_l, k_xS_sl, k_xSO, k_elQ, k_xA, k_xAq, k_slc_l, k_slc_e, k_slc_sl, k_slL, k_slE, k_slO, k_opt0, k_opt1, k_map0, k_allW0, k_allW1, k_fe0, k_fe1, k_fs0, k_fs1, k_fl_i, k_fl_b, k_fl_l, k_ap, k_cont_l, k_cont_e, k_cont_s, k_cont_sl, k_contL_l, k_contL_e, k_contL_sl, k_contX, k_apC, k_apE_e, k_apE_sl, k_apO, k_apz, k_bldS0, k_bldS, k_bld, k_bldC0, k_bldC, k_eAr, k_b2s, k_b2sC, k_strO, k_ca0, k_ca0X, k_ca0R, k_reiN0, k_reiN1, k_rs1_0, k_rs_0, k_rl_0, k_re_0, k_rs1, k_rs, k_rl, k_re, k_r0_l, k_r0_e, k_r0_i, k_r0_b, k_r0_s, k_r0_blob, k_r0_sl, k_r0_bs, k_r1_agg, k_r1_l, k_r1_e, k_r1_i, k_r1_b, k_r1_s, k_r1_sl, k_r1_bs, k_contL_bs, k_contB, k_r_l, k_r_sl, k_back0, k_back1, k_one1, k_one2, k_handX, k_rowX, k_ca, k_ca_ei, k_fin1, k_fin2, k_res_b, k_res_i, k_res_s, k_res_l, k_res_e, k_res_agg, k_res_sl, k_head, k_head0, k_headF, k_headOK, k_hc0, k_asR_e, k_asR_sl, k_sea_sl, getS, getO, gS, zipN, dropW, takeW, wds, stvs, sea, seaL, refs, refsL, refsEls, refsO, isPureEls, isPures, isPure, noExt, noExts, noExtEls, cellsL, ren, renL, renEls, keepO, keepS, keysO, refsS, refsOB, cntN, headC, setS, boxO, row, putW, putB, putB1, eNl, newOs, frz, renO, noExtO, zps, zp, two32, w64, -getElem?_pos]
  rfl
set_option maxHeartbeats 4000000 in
theorem end24a (N d : Nat) (g : SL → OB → Option R) (r z o : List PV) : m24b0 (sem tab N d) N [] g (sl24a r 8) (ob24a z o) = some (.agg [.blob 32 o], []) := by
  simp -implicitDefEqProofs (maxSteps := 1000000) (disch := first | omega | rfl) [m24b0, sl24a, ob24a, box, k_g0, k_gs, k_bnd, k_bndO, k_br_t, k_br_f, k_br_u, k_agree, k_loop, k_add, k_sub, k_mul, k_lss, k_leq, k_gtr, k_geq, k_eql, k_neq, k_rem, k_quo, k_and, k_or, k_xor, k_shl, k_shr, k_seql, k_sneq, k_sadd, k_beql, k_bneq, k_not, k_neg, k_com, k_cv, k_pk, k_gd, k_gdt, k_gdO, k_gdOt, k_ext, k_fA, k_l1, k_l1b, k_l1q, k_l1qb, k_lN, k_lNq, k_atO, k_atE, k_aggO, k_takeO, k_blobAt, k_nthB, k_hd_i, k_hd_b, k_hd_s, k_hd_l, k_hd_e, k_hd_sl, k_rt_l, k_rt_i, k_rt_b, k_rt_s, k_rt_blob, k_st, k_stb, k_stX, k_stE, k_stD, k_stB, k_stG, k_stF, k_stP, k_stQ, k_puris0, k_puris, k_puriC, k_puri_i, k_puri_b, k_puri_l, k_c_agg, k_c_i, k_c_b, k_c_s, k_c_l, k_c_e, k_c_sl, k_c_p, k_sv_agg, k_sv_i, k_sv_b, k_sv_s, k_sv_l, k_sv_e, k_sv_sl, k_sc_i, k_sc_b, k_wd_i, k_wd_b, k_wd_s, k_wd_l, k_wd_e, k_wd_sl, k_wd_p, k_wd_blob, k_al, k_bx, k_new, k_len_l, k_len_e, k_len_sl, k_len_bs, k_lenS, k_cp_e, k_eNs_l, k_eNs_e, k_xS_l, k_xS_sl, k_xSO, k_elQ, k_xA, k_xAq, k_slc_l, k_slc_e, k_slc_sl, k_slL, k_slE, k_slO, k_opt0, k_opt1, k_map0, k_allW0, k_allW1, k_fe0, k_fe1, k_fs0, k_fs1, k_fl_i, k_fl_b, k_fl_l, k_ap, k_cont_l, k_cont_e, k_cont_s, k_cont_sl, k_contL_l, k_contL_e, k_contL_sl, k_contX, k_apC, k_apE_e, k_apE_sl, k_apO, k_apz, k_bldS0, k_bldS, k_bld, k_bldC0, k_bldC, k_eAr, k_b2s, k_b2sC, k_strO, k_ca0, k_ca0X, k_ca0R, k_reiN0, k_reiN1, k_rs1_0, k_rs_0, k_rl_0, k_re_0, k_rs1, k_rs, k_rl, k_re, k_r0_l, k_r0_e, k_r0_i, k_r0_b, k_r0_s, k_r0_blob, k_r0_sl, k_r0_bs, k_r1_agg, k_r1_l, k_r1_e, k_r1_i, k_r1_b, k_r1_s, k_r1_sl, k_r1_bs, k_contL_bs, k_contB, k_r_l, k_r_sl, k_back0, k_back1, k_one1, k_one2, k_handX, k_rowX, k_ca, k_ca_ei, k_fin1, k_fin2, k_res_b, k_res_i, k_res_s, k_res_l, k_res_e, k_res_agg, k_res_sl, k_head, k_head0, k_headF, k_headOK, k_hc0, k_asR_e, k_asR_sl, k_sea_sl, getS, getO, gS, zipN, dropW, takeW, wds, stvs, sea, seaL, refs, refsL, refsEls, refsO, isPureEls, isPures, isPure, noExt, noExts, noExtEls, cellsL, ren, renL, renEls, keepO, keepS, keysO, refsS, refsOB, cntN, headC, setS, boxO, row, putW, putB, putB1, eNl, newOs, frz, renO, noExtO, zps, zp, two32, w64, -getElem?_pos]
end Go.Proofs.YtbobbkgdbfcblaaDoor
