/- Plain lemmas: a key's block, padded; a tag. -/
import Derived.Test.YtbobbkgdbfcblaaDoorPureBase
set_option linter.all false
set_option linter.unusedSimpArgs false
set_option linter.unusedVariables false
namespace Go.Proofs.YtbobbkgdbfcblaaDoor
open Go
section
variable (ob : OB) (d o v i n w : Nat) (g : Bool) (X : Obj')
theorem k_cpy (x y : PV) : cpy ob w x y = cpC ob w x (cont ob y) := rfl
theorem k_cpC (xs : List (List PV)) (x : PV) : cpC ob w x (some (g, xs)) = cpX ob w g xs x := rfl
theorem k_cpX (xs : List (List PV)) : cpX ob w g xs (.sl o v i n) = cpyO o v i n w g xs (getO ob o) := rfl
theorem k_cpyO (xs : List (List PV)) : cpyO o v i n w g xs (some X) = if X.ver = v ∧ X.w = w ∧ X.pu = true ∧ X.fro = false ∧ i + n ≤ X.els.length ∧ allW w xs = true then
      some (.i .i64 (min xs.length n : Nat), [(o, { X with els := X.els.take i ++ (xs.take (min xs.length n) ++ X.els.drop (i + min xs.length n)), g := X.g && (g || flatEls xs) })])
    else none := rfl
theorem k_slcA : slc ob (.arr n) (.p o 0 0 0 none) none none none = slB o 0 0 n (some 0) (some n) := rfl
theorem k_slB (l h : Int) : slB o d i n (some l) (some h) = if 0 ≤ l ∧ l ≤ h ∧ h ≤ n then some (.bs o d (i + l.toNat) (h.toNat - l.toNat), []) else none := rfl
theorem k_cont_bs : cont ob (.bs o v i n) = contL ob (.bs o v i n) := rfl
end
def zrow (n : Nat) : List (List PV) := List.replicate n [.i .u8 0]
theorem zrow_len (n : Nat) : (zrow n).length = n := by simp [zrow]
theorem zrow_drop (n m : Nat) : (zrow n).drop m = zrow (n - m) := by simp [zrow]
theorem zrow_by (n : Nat) : zrow n = byL (List.replicate n 0) := by simp [zrow, byL]
theorem k_mks (ob : OB) (d n : Nat) (h : n ≤ 4294967296) : mks ob d [.i .u8 0] (.i .i64 n) = newX d { els := zrow n, w := 1, pu := true, g := true, cap := some n, ver := 0, fro := false } (.sl d 0 0 n) (getO ob d) := by
  have h1 : (0 : Int) ≤ n := by omega
  have h2 : (n : Int) ≤ two32 := by simp only [two32]; omega
  simp [mks, h1, h2, zps, zp, isPures, isPure, zrow, wds, wd]
theorem k_mks64 (ob : OB) (d : Nat) : mks ob d [.i .u8 0] (.i .i64 64) = newX d { els := zrow 64, w := 1, pu := true, g := true, cap := some 64, ver := 0, fro := false } (.sl d 0 0 64) (getO ob d) := k_mks ob d 64 (by omega)
theorem uL_by (o : List Int) : (uL o).map (fun v => [v]) = byL o := by simp [uL, byL]
noncomputable def sumI (ys : List Int) : List Int := endI (rounds nFirst ys).1 (rounds nFirst ys).2 ys.length
theorem sumI_len (ys : List Int) : (sumI ys).length = 32 := endI_len _ _ _ (rounds_len _ nFirst ys (Nat.le_refl _) rfl).1
noncomputable def blockI (xs : List Int) : List Int := if 64 < xs.length then sumI xs ++ List.replicate 32 0 else xs ++ List.replicate (64 - xs.length) 0
theorem blockI_len (xs : List Int) : (blockI xs).length = 64 := by
  unfold blockI
  split
  · simp [sumI_len]
  · simp; omega
set_option maxHeartbeats 4000000 in
/-- A key's block. -/
theorem L31 (M d : Nat) (xs : List Int) (h : xs.length ≤ 57600) : sem tab (M + 1000) (d + 8) 31 [.l false (byL xs)] [] = some (.sl 0 0 0 64, [row (byL (blockI xs)) 1 true]) := by
  rw [sem_succ tab (M + 1000) (d + 7) 31 m31 rfl]
  have h26 := L26 M d xs h
  have hlx := byL_len xs
  have wx := allW_by xs
  have fx := flat_by xs
  by_cases f : 64 < xs.length
  · change _ = some (PV.agg [PV.blob 32 (uL (sumI xs))], []) at h26
    have hB : byL (blockI xs) = byL (sumI xs) ++ zrow 32 := by
      rw [blockI, if_pos f, zrow_by, byL_app]
    have hu := uL_by (sumI xs)
    have hul := uL_len (sumI xs)
    have hsl := byL_len (sumI xs)
    rw [sumI_len] at hul hsl
    have ws := allW_by (sumI xs)
    have fs := flat_by (sumI xs)
    rw [← hlx] at f
    have f1 : (a : Nat) → (a : Int) = a := fun _ => rfl
    generalize byL (blockI xs) = B at *
    generalize byL (sumI xs) = s at *
    generalize uL (sumI xs) = u at *
    generalize byL xs = a at *
    have f2 : (a.length : Int) > 64 := by omega
    have f3 : 64 < (a.length : Int) := by omega
    have hts : List.take 32 s = s := List.take_of_length_le (by omega)
    have htu : List.take 32 u = u := List.take_of_length_le (by omega)
    generalize hz : List.replicate 32 (PV.i IntKind.u8 0) = zz at *
    have hlz : (s ++ zrow 32).length = 64 := by rw [List.length_append, zrow_len, hsl]
    have htz : List.take 64 (s ++ zrow 32) = s ++ zrow 32 := List.take_of_length_le (by omega)
    simp -implicitDefEqProofs (maxSteps := 1000000) (disch := first | omega | rfl) [m31, hz, h26, f, f2, f3, hB, hu, hul, hsl, hts, htu, ws, fs, htz, k_mks64, k_cpy, k_cpC, k_cpX, k_cpyO, k_slcA, k_slB, k_cont_bs, zrow_len, zrow_drop, k_g0, k_gs, k_bnd, k_bndO, k_br_t, k_br_f, k_br_u, k_agree, k_loop, k_add, k_sub, k_mul, k_lss, k_leq, k_gtr, k_geq, k_eql, k_neq, k_rem, k_quo, k_and, k_or, k_xor, k_shl, k_shr, k_seql, k_sneq, k_sadd, k_beql, k_bneq, k_not, k_neg, k_com, k_cv, k_pk, k_gd, k_gdt, k_gdO, k_gdOt, k_ext, k_fA, k_l1, k_l1b, k_l1q, k_l1qb, k_lN, k_lNq, k_atO, k_atE, k_aggO, k_takeO, k_blobAt, k_nthB, k_hd_i, k_hd_b, k_hd_s, k_hd_l, k_hd_e, k_hd_sl, k_rt_l, k_rt_i, k_rt_b, k_rt_s, k_rt_blob, k_st, k_stb, k_stX, k_stE, k_stD, k_stB, k_stG, k_stF, k_stP, k_stQ, k_puris0, k_puris, k_puriC, k_puri_i, k_puri_b, k_puri_l, k_c_agg, k_c_i, k_c_b, k_c_s, k_c_l, k_c_e, k_c_sl, k_c_p, k_sv_agg, k_sv_i, k_sv_b, k_sv_s, k_sv_l, k_sv_e, k_sv_sl, k_sc_i, k_sc_b, k_wd_i, k_wd_b, k_wd_s, k_wd_l, k_wd_e, k_wd_sl, k_wd_p, k_wd_blob, k_al, k_bx, k_new, k_len_l, k_len_e, k_len_sl, k_len_bs, k_lenS, k_cp_e, k_eNs_l, k_eNs_e, k_xS_l, k_xS_sl, k_xSO, k_elQ, k_xA, k_xAq, k_slc_l, k_slc_e, k_slc_sl, k_slL, k_slE, k_slO, k_opt0, k_opt1, k_map0, k_allW0, k_allW1, k_fe0, k_fe1, k_fs0, k_fs1, k_fl_i, k_fl_b, k_fl_l, k_ap, k_cont_l, k_cont_e, k_cont_s, k_cont_sl, k_contL_l, k_contL_e, k_contL_sl, k_contX, k_apC, k_apE_e, k_apE_sl, k_apO, k_apz, k_bldS0, k_bldS, k_bld, k_bldC0, k_bldC, k_eAr, k_b2s, k_b2sC, k_strO, k_ca0, k_ca0X, k_ca0R, k_reiN0, k_reiN1, k_rs1_0, k_rs_0, k_rl_0, k_re_0, k_rs1, k_rs, k_rl, k_re, k_r0_l, k_r0_e, k_r0_i, k_r0_b, k_r0_s, k_r0_blob, k_r0_sl, k_r0_bs, k_r1_agg, k_r1_l, k_r1_e, k_r1_i, k_r1_b, k_r1_s, k_r1_sl, k_r1_bs, k_contL_bs, k_contB, k_r_l, k_r_sl, k_back0, k_back1, k_one1, k_one2, k_handX, k_rowX, k_ca, k_ca_ei, k_fin1, k_fin2, k_res_b, k_res_i, k_res_s, k_res_l, k_res_e, k_res_agg, k_res_sl, k_head, k_head0, k_headF, k_headOK, k_hc0, k_asR_e, k_asR_sl, k_sea_sl, getS, getO, gS, zipN, dropW, takeW, wds, stvs, sea, seaL, refs, refsL, refsEls, refsO, isPureEls, isPures, isPure, noExt, noExts, noExtEls, cellsL, ren, renL, renEls, keepO, keepS, keysO, refsS, refsOB, cntN, headC, setS, boxO, row, putW, putB, putB1, eNl, newOs, frz, renO, noExtO, zps, zp, two32, w64, -getElem?_pos]
  · have hB : byL (blockI xs) = byL xs ++ zrow (64 - xs.length) := by
      rw [blockI, if_neg f, zrow_by, byL_app]
    rw [← hlx] at f hB
    generalize byL (blockI xs) = B at *
    generalize byL xs = a at *
    have f2 : ¬ ((a.length : Int) > 64) := by omega
    have f3 : ¬ (64 < (a.length : Int)) := by omega
    have hm : min a.length 64 = a.length := by omega
    have hta : List.take a.length a = a := List.take_length
    have hlz : (a ++ zrow (64 - a.length)).length = 64 := by rw [List.length_append, zrow_len]; omega
    have htz : List.take 64 (a ++ zrow (64 - a.length)) = a ++ zrow (64 - a.length) := List.take_of_length_le (by omega)
    have hlz2 : 64 ≤ a.length + (64 - a.length) := by omega
    simp -implicitDefEqProofs (maxSteps := 1000000) (disch := first | omega | rfl) [m31, f, f2, f3, hB, hm, hta, wx, fx, htz, hlz2, k_mks64, k_cpy, k_cpC, k_cpX, k_cpyO, zrow_len, zrow_drop, k_g0, k_gs, k_bnd, k_bndO, k_br_t, k_br_f, k_br_u, k_agree, k_loop, k_add, k_sub, k_mul, k_lss, k_leq, k_gtr, k_geq, k_eql, k_neq, k_rem, k_quo, k_and, k_or, k_xor, k_shl, k_shr, k_seql, k_sneq, k_sadd, k_beql, k_bneq, k_not, k_neg, k_com, k_cv, k_pk, k_gd, k_gdt, k_gdO, k_gdOt, k_ext, k_fA, k_l1, k_l1b, k_l1q, k_l1qb, k_lN, k_lNq, k_atO, k_atE, k_aggO, k_takeO, k_blobAt, k_nthB, k_hd_i, k_hd_b, k_hd_s, k_hd_l, k_hd_e, k_hd_sl, k_rt_l, k_rt_i, k_rt_b, k_rt_s, k_rt_blob, k_st, k_stb, k_stX, k_stE, k_stD, k_stB, k_stG, k_stF, k_stP, k_stQ, k_puris0, k_puris, k_puriC, k_puri_i, k_puri_b, k_puri_l, k_c_agg, k_c_i, k_c_b, k_c_s, k_c_l, k_c_e, k_c_sl, k_c_p, k_sv_agg, k_sv_i, k_sv_b, k_sv_s, k_sv_l, k_sv_e, k_sv_sl, k_sc_i, k_sc_b, k_wd_i, k_wd_b, k_wd_s, k_wd_l, k_wd_e, k_wd_sl, k_wd_p, k_wd_blob, k_al, k_bx, k_new, k_len_l, k_len_e, k_len_sl, k_len_bs, k_lenS, k_cp_e, k_eNs_l, k_eNs_e, k_xS_l, k_xS_sl, k_xSO, k_elQ, k_xA, k_xAq, k_slc_l, k_slc_e, k_slc_sl, k_slL, k_slE, k_slO, k_opt0, k_opt1, k_map0, k_allW0, k_allW1, k_fe0, k_fe1, k_fs0, k_fs1, k_fl_i, k_fl_b, k_fl_l, k_ap, k_cont_l, k_cont_e, k_cont_s, k_cont_sl, k_contL_l, k_contL_e, k_contL_sl, k_contX, k_apC, k_apE_e, k_apE_sl, k_apO, k_apz, k_bldS0, k_bldS, k_bld, k_bldC0, k_bldC, k_eAr, k_b2s, k_b2sC, k_strO, k_ca0, k_ca0X, k_ca0R, k_reiN0, k_reiN1, k_rs1_0, k_rs_0, k_rl_0, k_re_0, k_rs1, k_rs, k_rl, k_re, k_r0_l, k_r0_e, k_r0_i, k_r0_b, k_r0_s, k_r0_blob, k_r0_sl, k_r0_bs, k_r1_agg, k_r1_l, k_r1_e, k_r1_i, k_r1_b, k_r1_s, k_r1_sl, k_r1_bs, k_contL_bs, k_contB, k_r_l, k_r_sl, k_back0, k_back1, k_one1, k_one2, k_handX, k_rowX, k_ca, k_ca_ei, k_fin1, k_fin2, k_res_b, k_res_i, k_res_s, k_res_l, k_res_e, k_res_agg, k_res_sl, k_head, k_head0, k_headF, k_headOK, k_hc0, k_asR_e, k_asR_sl, k_sea_sl, getS, getO, gS, zipN, dropW, takeW, wds, stvs, sea, seaL, refs, refsL, refsEls, refsO, isPureEls, isPures, isPure, noExt, noExts, noExtEls, cellsL, ren, renL, renEls, keepO, keepS, keysO, refsS, refsOB, cntN, headC, setS, boxO, row, putW, putB, putB1, eNl, newOs, frz, renO, noExtO, zps, zp, two32, w64, -getElem?_pos]
end Go.Proofs.YtbobbkgdbfcblaaDoor
