/- Plain lemmas: the numbers of a block, and its rounds: that there are some. -/
import Derived.Test.YtbobbkgdbfcblaaDoorPureA
set_option linter.all false
set_option linter.unusedSimpArgs false
set_option linter.unusedVariables false
namespace Go.Proofs.YtbobbkgdbfcblaaDoor
open Go
def wL (ws : List Int) : List PV := ws.map (.i .u32)
theorem wL_get (ws : List Int) (j : Nat) : (wL ws)[j]? = (ws[j]?).map (.i .u32) := by simp [wL]
theorem wL_set (ws : List Int) (j : Nat) (y : Int) : (wL ws).set j (.i .u32 y) = wL (ws.set j y) := by simp [wL, List.map_set]
theorem wL_len (ws : List Int) : (wL ws).length = ws.length := by simp [wL]
theorem byL_get (xs : List Int) (j : Nat) : (byL xs)[j]? = (xs[j]?).map fun n => [.i .u8 n] := by simp [byL]
noncomputable def turnF (x n : Int) : Int := match sem tab 0 2 49 [.i .u32 x, .i .i64 n] [] with
  | some (.i _ y, _) => y
  | _ => 0
theorem turn_any (N d : Nat) (x n : Int) : sem tab N (d + 2) 49 [.i .u32 x, .i .i64 n] [] = sem tab 0 2 49 [.i .u32 x, .i .i64 n] [] := rfl
theorem turn7 (N d : Nat) (x : Int) : sem tab N (d + 2) 49 [.i .u32 x, .i .i64 7] [] = some (.i .u32 (turnF x 7), []) := rfl
theorem turn18 (N d : Nat) (x : Int) : sem tab N (d + 2) 49 [.i .u32 x, .i .i64 18] [] = some (.i .u32 (turnF x 18), []) := rfl
theorem turn17 (N d : Nat) (x : Int) : sem tab N (d + 2) 49 [.i .u32 x, .i .i64 17] [] = some (.i .u32 (turnF x 17), []) := rfl
theorem turn19 (N d : Nat) (x : Int) : sem tab N (d + 2) 49 [.i .u32 x, .i .i64 19] [] = some (.i .u32 (turnF x 19), []) := rfl
theorem turn6 (N d : Nat) (x : Int) : sem tab N (d + 2) 49 [.i .u32 x, .i .i64 6] [] = some (.i .u32 (turnF x 6), []) := rfl
theorem turn11 (N d : Nat) (x : Int) : sem tab N (d + 2) 49 [.i .u32 x, .i .i64 11] [] = some (.i .u32 (turnF x 11), []) := rfl
theorem turn25 (N d : Nat) (x : Int) : sem tab N (d + 2) 49 [.i .u32 x, .i .i64 25] [] = some (.i .u32 (turnF x 25), []) := rfl
theorem turn2 (N d : Nat) (x : Int) : sem tab N (d + 2) 49 [.i .u32 x, .i .i64 2] [] = some (.i .u32 (turnF x 2), []) := rfl
theorem turn13 (N d : Nat) (x : Int) : sem tab N (d + 2) 49 [.i .u32 x, .i .i64 13] [] = some (.i .u32 (turnF x 13), []) := rfl
theorem turn22 (N d : Nat) (x : Int) : sem tab N (d + 2) 49 [.i .u32 x, .i .i64 22] [] = some (.i .u32 (turnF x 22), []) := rfl
def box (cs : List PV) (n : Nat) : Obj' := { els := [cs], w := n, pu := false, g := true, cap := none, ver := 0, fro := false }
def sl48 (b : List (List PV)) (k : Int) : SL := [(0, .l false b), (2, .p 80 0 0 0 none), (3, .p 88 0 0 0 none), (7, .i .i64 k)]
def ob48 (zs ws : List PV) : OB := [(80, box [.blob 64 zs] 64), (88, box [.blob 64 ws] 64)]
set_option maxHeartbeats 4000000 in
theorem step48a (k : Nat) (b : List (List PV)) (zs ws : List PV) (x0 x1 x2 x3 : Int) (hk : k < 16) (hw : ws.length = 64)
    (h0 : b[4 * k]? = some [.i .u8 x0]) (h1 : b[4 * k + 1]? = some [.i .u8 x1]) (h2 : b[4 * k + 2]? = some [.i .u8 x2]) (h3 : b[4 * k + 3]? = some [.i .u8 x3]) :
    ∃ y, ∀ (N d : Nat) (g : SL → OB → Option R), m48b0 (sem tab N (d + 2)) N [] g (sl48 b k) (ob48 zs ws) = g (sl48 b (k + 1 : Nat)) (ob48 zs (ws.set k (.i .u32 y))) := by
  have c1 : (k : Int) < 64 := by omega
  have c2 : (k : Int) < 16 := by omega
  have c3 : (0 : Int) ≤ k := by omega
  have c4 : (0 : Int) ≤ 4 * (k : Int) := by omega
  have c5 : (0 : Int) ≤ 4 * (k : Int) + 1 := by omega
  have c6 : (0 : Int) ≤ 4 * (k : Int) + 2 := by omega
  have c7 : (0 : Int) ≤ 4 * (k : Int) + 3 := by omega
  have t4 : (4 * (k : Int)).toNat = 4 * k := by omega
  have t5 : (4 * (k : Int) + 1).toNat = 4 * k + 1 := by omega
  have t6 : (4 * (k : Int) + 2).toNat = 4 * k + 2 := by omega
  have t7 : (4 * (k : Int) + 3).toNat = 4 * k + 3 := by omega
  have c8 : k < 64 := by omega
  apply Exists.intro
  intro N d g
  simp -implicitDefEqProofs (maxSteps := 1000000) (disch := first | omega | rfl) [m48b0, sl48, ob48, box, c1, c2, c3, c4, c5, c6, c7, c8, t4, t5, t6, t7, h0, h1, h2, h3, hw, k_g0, k_gs, k_bnd, k_bndO, k_br_t, k_br_f, k_br_u, k_agree, k_loop, k_add, k_sub, k_mul, k_lss, k_leq, k_gtr, k_geq, k_eql, k_neq, k_rem, k_quo, k_and, k_or, k_xor, k_shl, k_shr, k_seql, k_sneq, k_sadd, k_beql, k_bneq, k_not, k_neg, k_com, k_cv, k_pk, k_gd, k_gdt, k_gdO, k_gdOt, k_ext, k_fA, k_l1, k_l1b, k_l1q, k_l1qb, k_lN, k_lNq, k_atO, k_atE, k_aggO, k_takeO, k_blobAt, k_nthB, k_hd_i, k_hd_b, k_hd_s, k_hd_l, k_hd_e, k_hd_sl, k_rt_l, k_rt_i, k_rt_b, k_rt_s, k_rt_blob, k_st, k_stb, k_stX, k_stE, k_stD, k_stB, k_stG, k_stF, k_stP, k_stQ, k_puris0, k_puris, k_puriC, k_puri_i, k_puri_b, k_puri_l, k_c_agg, k_c_i, k_c_b, k_c_s, k_c_l, k_c_e, k_c_sl, k_c_p, k_sv_agg, k_sv_i, k_sv_b, k_sv_s, k_sv_l, k_sv_e, k_sv_sl, k_sc_i, k_sc_b, k_wd_i, k_wd_b, k_wd_s, k_wd_l, k_wd_e, k_wd_sl, k_wd_p, k_wd_blob, k_al, k_bx, k_new, k_len_l, k_len_e, k_len_sl, k_len_bs, k_lenS, k_cp_e, k_eNs_l, k_eNs_e, k_xS_l, k_xS_sl, k_xSO, k_elQ, k_xA, k_xAq, k_slc_l, k_slc_e, k_slc_sl, k_slL, k_slE, k_slO, k_opt0, k_opt1, k_map0, k_allW0, k_allW1, k_fe0, k_fe1, k_fs0, k_fs1, k_fl_i, k_fl_b, k_fl_l, k_ap, k_cont_l, k_cont_e, k_cont_s, k_cont_sl, k_contL_l, k_contL_e, k_contL_sl, k_contX, k_apC, k_apE_e, k_apE_sl, k_apO, k_apz, k_bldS0, k_bldS, k_bld, k_bldC0, k_bldC, k_eAr, k_b2s, k_b2sC, k_strO, k_ca0, k_ca0X, k_ca0R, k_reiN0, k_reiN1, k_rs1_0, k_rs_0, k_rl_0, k_re_0, k_rs1, k_rs, k_rl, k_re, k_r0_l, k_r0_e, k_r0_i, k_r0_b, k_r0_s, k_r0_blob, k_r0_sl, k_r0_bs, k_r1_agg, k_r1_l, k_r1_e, k_r1_i, k_r1_b, k_r1_s, k_r1_sl, k_r1_bs, k_contL_bs, k_contB, k_r_l, k_r_sl, k_back0, k_back1, k_one1, k_one2, k_handX, k_rowX, k_ca, k_ca_ei, k_fin1, k_fin2, k_res_b, k_res_i, k_res_s, k_res_l, k_res_e, k_res_agg, k_res_sl, k_head, k_head0, k_headF, k_headOK, k_hc0, k_asR_e, k_asR_sl, k_sea_sl, getS, getO, gS, zipN, dropW, takeW, wds, stvs, sea, seaL, refs, refsL, refsEls, refsO, isPureEls, isPures, isPure, noExt, noExts, noExtEls, cellsL, ren, renL, renEls, keepO, keepS, keysO, refsS, refsOB, cntN, headC, setS, boxO, row, putW, putB, putB1, eNl, newOs, frz, renO, noExtO, zps, zp, two32, w64, -getElem?_pos]
  rfl
set_option maxHeartbeats 4000000 in
theorem step48b (k : Nat) (b : List (List PV)) (zs ws : List PV) (x0 x1 x2 x3 : Int) (hk : k < 64) (hk' : 16 ≤ k) (hw : ws.length = 64)
    (h0 : ws[k - 15]? = some (.i .u32 x0)) (h1 : ws[k - 2]? = some (.i .u32 x1)) (h2 : ws[k - 16]? = some (.i .u32 x2)) (h3 : ws[k - 7]? = some (.i .u32 x3)) :
    ∃ y, ∀ (N d : Nat) (g : SL → OB → Option R), m48b0 (sem tab N (d + 2)) N [] g (sl48 b k) (ob48 zs ws) = g (sl48 b (k + 1 : Nat)) (ob48 zs (ws.set k (.i .u32 y))) := by
  have c1 : (k : Int) < 64 := by omega
  have c2 : ¬ ((k : Int) < 16) := by omega
  have c2' : ¬ (k < 16) := by omega
  have c3 : (0 : Int) ≤ k := by omega
  have c4 : (0 : Int) ≤ (k : Int) - 15 := by omega
  have c5 : (0 : Int) ≤ (k : Int) - 2 := by omega
  have c6 : (0 : Int) ≤ (k : Int) - 16 := by omega
  have c7 : (0 : Int) ≤ (k : Int) - 7 := by omega
  have d4 : (k : Int) - 15 < 64 := by omega
  have d5 : (k : Int) - 2 < 64 := by omega
  have d6 : (k : Int) - 16 < 64 := by omega
  have d7 : (k : Int) - 7 < 64 := by omega
  have t4 : ((k : Int) - 15).toNat = k - 15 := by omega
  have t5 : ((k : Int) - 2).toNat = k - 2 := by omega
  have t6 : ((k : Int) - 16).toNat = k - 16 := by omega
  have t7 : ((k : Int) - 7).toNat = k - 7 := by omega
  have c8 : k < 64 := by omega
  have e4 : (15 : Int) ≤ k := by omega
  have e5 : (2 : Int) ≤ k := by omega
  have e6 : (16 : Int) ≤ k := by omega
  have e7 : (7 : Int) ≤ k := by omega
  have w4 : IntKind.i64.wrap ((k : Int) - 15) = (k : Int) - 15 := w64 (by omega) (by omega)
  have w5 : IntKind.i64.wrap ((k : Int) - 2) = (k : Int) - 2 := w64 (by omega) (by omega)
  have w6 : IntKind.i64.wrap ((k : Int) - 16) = (k : Int) - 16 := w64 (by omega) (by omega)
  have w7 : IntKind.i64.wrap ((k : Int) - 7) = (k : Int) - 7 := w64 (by omega) (by omega)
  apply Exists.intro
  intro N d g
  simp -implicitDefEqProofs (maxSteps := 1000000) (disch := first | omega | rfl) [m48b0, sl48, ob48, box, turn7, turn18, turn17, turn19, w4, w5, w6, w7, e4, e5, e6, e7, c1, c2, c2', c3, c4, c5, c6, c7, c8, d4, d5, d6, d7, t4, t5, t6, t7, h0, h1, h2, h3, hw, k_g0, k_gs, k_bnd, k_bndO, k_br_t, k_br_f, k_br_u, k_agree, k_loop, k_add, k_sub, k_mul, k_lss, k_leq, k_gtr, k_geq, k_eql, k_neq, k_rem, k_quo, k_and, k_or, k_xor, k_shl, k_shr, k_seql, k_sneq, k_sadd, k_beql, k_bneq, k_not, k_neg, k_com, k_cv, k_pk, k_gd, k_gdt, k_gdO, k_gdOt, k_ext, k_fA, k_l1, k_l1b, k_l1q, k_l1qb, k_lN, k_lNq, k_atO, k_atE, k_aggO, k_takeO, k_blobAt, k_nthB, k_hd_i, k_hd_b, k_hd_s, k_hd_l, k_hd_e, k_hd_sl, k_rt_l, k_rt_i, k_rt_b, k_rt_s, k_rt_blob, k_st, k_stb, k_stX, k_stE, k_stD, k_stB, k_stG, k_stF, k_stP, k_stQ, k_puris0, k_puris, k_puriC, k_puri_i, k_puri_b, k_puri_l, k_c_agg, k_c_i, k_c_b, k_c_s, k_c_l, k_c_e, k_c_sl, k_c_p, k_sv_agg, k_sv_i, k_sv_b, k_sv_s, k_sv_l, k_sv_e, k_sv_sl, k_sc_i, k_sc_b, k_wd_i, k_wd_b, k_wd_s, k_wd_l, k_wd_e, k_wd_sl, k_wd_p, k_wd_blob, k_al, k_bx, k_new, k_len_l, k_len_e, k_len_sl, k_len_bs, k_lenS, k_cp_e, k_eNs_l, k_eNs_e, k_xS_l, k_xS_sl, k_xSO, k_elQ, k_xA, k_xAq, k_slc_l, k_slc_e, k_slc_sl, k_slL, k_slE, k_slO, k_opt0, k_opt1, k_map0, k_allW0, k_allW1, k_fe0, k_fe1, k_fs0, k_fs1, k_fl_i, k_fl_b, k_fl_l, k_ap, k_cont_l, k_cont_e, k_cont_s, k_cont_sl, k_contL_l, k_contL_e, k_contL_sl, k_contX, k_apC, k_apE_e, k_apE_sl, k_apO, k_apz, k_bldS0, k_bldS, k_bld, k_bldC0, k_bldC, k_eAr, k_b2s, k_b2sC, k_strO, k_ca0, k_ca0X, k_ca0R, k_reiN0, k_reiN1, k_rs1_0, k_rs_0, k_rl_0, k_re_0, k_rs1, k_rs, k_rl, k_re, k_r0_l, k_r0_e, k_r0_i, k_r0_b, k_r0_s, k_r0_blob, k_r0_sl, k_r0_bs, k_r1_agg, k_r1_l, k_r1_e, k_r1_i, k_r1_b, k_r1_s, k_r1_sl, k_r1_bs, k_contL_bs, k_contB, k_r_l, k_r_sl, k_back0, k_back1, k_one1, k_one2, k_handX, k_rowX, k_ca, k_ca_ei, k_fin1, k_fin2, k_res_b, k_res_i, k_res_s, k_res_l, k_res_e, k_res_agg, k_res_sl, k_head, k_head0, k_headF, k_headOK, k_hc0, k_asR_e, k_asR_sl, k_sea_sl, getS, getO, gS, zipN, dropW, takeW, wds, stvs, sea, seaL, refs, refsL, refsEls, refsO, isPureEls, isPures, isPure, noExt, noExts, noExtEls, cellsL, ren, renL, renEls, keepO, keepS, keysO, refsS, refsOB, cntN, headC, setS, boxO, row, putW, putB, putB1, eNl, newOs, frz, renO, noExtO, zps, zp, two32, w64, -getElem?_pos]
  rfl
set_option maxHeartbeats 4000000 in
theorem end48 (N d : Nat) (g : SL → OB → Option R) (b : List (List PV)) (zs ws : List PV) : m48b0 (sem tab N (d + 2)) N [] g (sl48 b 64) (ob48 zs ws) = some (.agg [.blob 64 ws], []) := by
  simp -implicitDefEqProofs (maxSteps := 1000000) (disch := first | omega | rfl) [m48b0, sl48, ob48, box, k_g0, k_gs, k_bnd, k_bndO, k_br_t, k_br_f, k_br_u, k_agree, k_loop, k_add, k_sub, k_mul, k_lss, k_leq, k_gtr, k_geq, k_eql, k_neq, k_rem, k_quo, k_and, k_or, k_xor, k_shl, k_shr, k_seql, k_sneq, k_sadd, k_beql, k_bneq, k_not, k_neg, k_com, k_cv, k_pk, k_gd, k_gdt, k_gdO, k_gdOt, k_ext, k_fA, k_l1, k_l1b, k_l1q, k_l1qb, k_lN, k_lNq, k_atO, k_atE, k_aggO, k_takeO, k_blobAt, k_nthB, k_hd_i, k_hd_b, k_hd_s, k_hd_l, k_hd_e, k_hd_sl, k_rt_l, k_rt_i, k_rt_b, k_rt_s, k_rt_blob, k_st, k_stb, k_stX, k_stE, k_stD, k_stB, k_stG, k_stF, k_stP, k_stQ, k_puris0, k_puris, k_puriC, k_puri_i, k_puri_b, k_puri_l, k_c_agg, k_c_i, k_c_b, k_c_s, k_c_l, k_c_e, k_c_sl, k_c_p, k_sv_agg, k_sv_i, k_sv_b, k_sv_s, k_sv_l, k_sv_e, k_sv_sl, k_sc_i, k_sc_b, k_wd_i, k_wd_b, k_wd_s, k_wd_l, k_wd_e, k_wd_sl, k_wd_p, k_wd_blob, k_al, k_bx, k_new, k_len_l, k_len_e, k_len_sl, k_len_bs, k_lenS, k_cp_e, k_eNs_l, k_eNs_e, k_xS_l, k_xS_sl, k_xSO, k_elQ, k_xA, k_xAq, k_slc_l, k_slc_e, k_slc_sl, k_slL, k_slE, k_slO, k_opt0, k_opt1, k_map0, k_allW0, k_allW1, k_fe0, k_fe1, k_fs0, k_fs1, k_fl_i, k_fl_b, k_fl_l, k_ap, k_cont_l, k_cont_e, k_cont_s, k_cont_sl, k_contL_l, k_contL_e, k_contL_sl, k_contX, k_apC, k_apE_e, k_apE_sl, k_apO, k_apz, k_bldS0, k_bldS, k_bld, k_bldC0, k_bldC, k_eAr, k_b2s, k_b2sC, k_strO, k_ca0, k_ca0X, k_ca0R, k_reiN0, k_reiN1, k_rs1_0, k_rs_0, k_rl_0, k_re_0, k_rs1, k_rs, k_rl, k_re, k_r0_l, k_r0_e, k_r0_i, k_r0_b, k_r0_s, k_r0_blob, k_r0_sl, k_r0_bs, k_r1_agg, k_r1_l, k_r1_e, k_r1_i, k_r1_b, k_r1_s, k_r1_sl, k_r1_bs, k_contL_bs, k_contB, k_r_l, k_r_sl, k_back0, k_back1, k_one1, k_one2, k_handX, k_rowX, k_ca, k_ca_ei, k_fin1, k_fin2, k_res_b, k_res_i, k_res_s, k_res_l, k_res_e, k_res_agg, k_res_sl, k_head, k_head0, k_headF, k_headOK, k_hc0, k_asR_e, k_asR_sl, k_sea_sl, getS, getO, gS, zipN, dropW, takeW, wds, stvs, sea, seaL, refs, refsL, refsEls, refsO, isPureEls, isPures, isPure, noExt, noExts, noExtEls, cellsL, ren, renL, renEls, keepO, keepS, keysO, refsS, refsOB, cntN, headC, setS, boxO, row, putW, putB, putB1, eNl, newOs, frz, renO, noExtO, zps, zp, two32, w64, -getElem?_pos]
theorem get_of {ws : List Int} {j n : Nat} (h : ws.length = n) (hj : j < n) : ∃ x, ws[j]? = some x := ⟨ws[j], List.getElem?_eq_getElem (by omega)⟩
theorem loop48 (xs : List Int) (hx : xs.length = 64) (zs : List PV) : ∀ (n k : Nat) (ws : List Int), k + n = 64 → ws.length = 64 → ∃ ws', ws'.length = 64 ∧ ∀ N d M : Nat, loopC (m48b0 (sem tab N (d + 2)) N []) (M + 1 + n) (sl48 (byL xs) k) (ob48 zs (wL ws)) = some (.agg [.blob 64 (wL ws')], []) := by
  intro n
  induction n with
  | zero =>
    intro k ws hk hw
    have : k = 64 := by omega
    subst this
    exact ⟨ws, hw, fun N d M => by rw [Nat.add_zero, k_loop]; exact end48 N d _ _ _ _⟩
  | succ n ih =>
    intro k ws hk hw
    have wget : ∀ j, j < 64 → ∃ x, (wL ws)[j]? = some (.i .u32 x) := fun j hj => by
      obtain ⟨x, h⟩ := get_of hw hj
      exact ⟨x, by rw [wL_get, h]; rfl⟩
    have bget : ∀ j, j < 64 → ∃ x, (byL xs)[j]? = some [.i .u8 x] := fun j hj => by
      obtain ⟨x, h⟩ := get_of hx hj
      exact ⟨x, by rw [byL_get, h]; rfl⟩
    have key : ∃ y, ∀ (N d : Nat) (g : SL → OB → Option R), m48b0 (sem tab N (d + 2)) N [] g (sl48 (byL xs) k) (ob48 zs (wL ws)) = g (sl48 (byL xs) (k + 1 : Nat)) (ob48 zs ((wL ws).set k (.i .u32 y))) := by
      by_cases h16 : k < 16
      · obtain ⟨x0, h0⟩ := bget (4 * k) (by omega)
        obtain ⟨x1, h1⟩ := bget (4 * k + 1) (by omega)
        obtain ⟨x2, h2⟩ := bget (4 * k + 2) (by omega)
        obtain ⟨x3, h3⟩ := bget (4 * k + 3) (by omega)
        exact step48a k _ zs (wL ws) x0 x1 x2 x3 h16 (by rw [wL_len]; exact hw) h0 h1 h2 h3
      · obtain ⟨x0, h0⟩ := wget (k - 15) (by omega)
        obtain ⟨x1, h1⟩ := wget (k - 2) (by omega)
        obtain ⟨x2, h2⟩ := wget (k - 16) (by omega)
        obtain ⟨x3, h3⟩ := wget (k - 7) (by omega)
        exact step48b k _ zs (wL ws) x0 x1 x2 x3 (by omega) (by omega) (by rw [wL_len]; exact hw) h0 h1 h2 h3
    obtain ⟨y, hy⟩ := key
    obtain ⟨ws', h1, h2⟩ := ih (k + 1) (ws.set k y) (by omega) (by simpa using hw)
    refine ⟨ws', h1, fun N d M => ?_⟩
    rw [show M + 1 + (n + 1) = (M + 1 + n) + 1 by omega, k_loop, hy, wL_set]
    exact h2 N d M
set_option maxHeartbeats 4000000 in
theorem E48 (xs : List Int) (hx : xs.length = 64) : ∃ ws : List Int, ws.length = 64 ∧ ∀ M d : Nat, sem tab (M + 65) (d + 3) 48 [.l false (byL xs)] [] = some (.agg [.blob 64 (wL ws)], []) := by
  obtain ⟨ws, h1, h2⟩ := loop48 xs hx (List.replicate 64 (.i .u32 0)) 64 0 (List.replicate 64 0) rfl (by simp)
  refine ⟨ws, h1, fun M d => ?_⟩
  have h2 := h2 (M + 65) d M
  rw [sem_succ tab (M + 65) (d + 2) 48 m48 rfl]
  have e : wL (List.replicate 64 0) = List.replicate 64 (.i .u32 0) := by simp [wL]
  rw [e] at h2
  generalize byL xs = b at *
  generalize hz : List.replicate 64 (PV.i IntKind.u32 0) = z at *
  simp only [sl48, ob48, box, Nat.add_assoc] at h2
  simp -implicitDefEqProofs (maxSteps := 1000000) (disch := first | omega | rfl) [m48, hz, k_g0, k_gs, k_bnd, k_bndO, k_br_t, k_br_f, k_br_u, k_agree, k_loop, k_add, k_sub, k_mul, k_lss, k_leq, k_gtr, k_geq, k_eql, k_neq, k_rem, k_quo, k_and, k_or, k_xor, k_shl, k_shr, k_seql, k_sneq, k_sadd, k_beql, k_bneq, k_not, k_neg, k_com, k_cv, k_pk, k_gd, k_gdt, k_gdO, k_gdOt, k_ext, k_fA, k_l1, k_l1b, k_l1q, k_l1qb, k_lN, k_lNq, k_atO, k_atE, k_aggO, k_takeO, k_blobAt, k_nthB, k_hd_i, k_hd_b, k_hd_s, k_hd_l, k_hd_e, k_hd_sl, k_rt_l, k_rt_i, k_rt_b, k_rt_s, k_rt_blob, k_st, k_stb, k_stX, k_stE, k_stD, k_stB, k_stG, k_stF, k_stP, k_stQ, k_puris0, k_puris, k_puriC, k_puri_i, k_puri_b, k_puri_l, k_c_agg, k_c_i, k_c_b, k_c_s, k_c_l, k_c_e, k_c_sl, k_c_p, k_sv_agg, k_sv_i, k_sv_b, k_sv_s, k_sv_l, k_sv_e, k_sv_sl, k_sc_i, k_sc_b, k_wd_i, k_wd_b, k_wd_s, k_wd_l, k_wd_e, k_wd_sl, k_wd_p, k_wd_blob, k_al, k_bx, k_new, k_len_l, k_len_e, k_len_sl, k_len_bs, k_lenS, k_cp_e, k_eNs_l, k_eNs_e, k_xS_l, k_xS_sl, k_xSO, k_elQ, k_xA, k_xAq, k_slc_l, k_slc_e, k_slc_sl, k_slL, k_slE, k_slO, k_opt0, k_opt1, k_map0, k_allW0, k_allW1, k_fe0, k_fe1, k_fs0, k_fs1, k_fl_i, k_fl_b, k_fl_l, k_ap, k_cont_l, k_cont_e, k_cont_s, k_cont_sl, k_contL_l, k_contL_e, k_contL_sl, k_contX, k_apC, k_apE_e, k_apE_sl, k_apO, k_apz, k_bldS0, k_bldS, k_bld, k_bldC0, k_bldC, k_eAr, k_b2s, k_b2sC, k_strO, k_ca0, k_ca0X, k_ca0R, k_reiN0, k_reiN1, k_rs1_0, k_rs_0, k_rl_0, k_re_0, k_rs1, k_rs, k_rl, k_re, k_r0_l, k_r0_e, k_r0_i, k_r0_b, k_r0_s, k_r0_blob, k_r0_sl, k_r0_bs, k_r1_agg, k_r1_l, k_r1_e, k_r1_i, k_r1_b, k_r1_s, k_r1_sl, k_r1_bs, k_contL_bs, k_contB, k_r_l, k_r_sl, k_back0, k_back1, k_one1, k_one2, k_handX, k_rowX, k_ca, k_ca_ei, k_fin1, k_fin2, k_res_b, k_res_i, k_res_s, k_res_l, k_res_e, k_res_agg, k_res_sl, k_head, k_head0, k_headF, k_headOK, k_hc0, k_asR_e, k_asR_sl, k_sea_sl, getS, getO, gS, zipN, dropW, takeW, wds, stvs, sea, seaL, refs, refsL, refsEls, refsO, isPureEls, isPures, isPure, noExt, noExts, noExtEls, cellsL, ren, renL, renEls, keepO, keepS, keysO, refsS, refsOB, cntN, headC, setS, boxO, row, putW, putB, putB1, eNl, newOs, frz, renO, noExtO, zps, zp, two32, w64, -getElem?_pos]
  exact h2
end Go.Proofs.YtbobbkgdbfcblaaDoor
