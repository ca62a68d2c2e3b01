/- Plain lemmas: a block padded; the closure of a tag; a tag. -/
import Derived.Test.YtbobbkgdbfcblaaDoorPureL
set_option linter.all false
set_option linter.unusedSimpArgs false
set_option linter.unusedVariables false
namespace Go.Proofs.YtbobbkgdbfcblaaDoor
open Go
def xorI (c x : Int) : Int := IntKind.u8.wrap ((BitVec.ofInt 8 x ^^^ BitVec.ofInt 8 c).toNat)
noncomputable def padI (xs : List Int) (c : Int) : List Int := (blockI xs).map (xorI c)
theorem padI_len (xs : List Int) (c : Int) : (padI xs c).length = 64 := by simp [padI, blockI_len]
def sl29 (c k : Int) : SL := [(1, .i .u8 c), (5, .sl 136 0 0 64), (6, .i .i64 k)]
def ob29 (t : List (List PV)) : OB := [(136, row t 1 true)]
set_option maxHeartbeats 4000000 in
theorem step29 (N d : Nat) (g : SL → OB → Option R) (t : List (List PV)) (c x : Int) (k : Nat) (hk : k < 64) (hl : t.length = 64) (ht : t[k]? = some [.i .u8 x]) :
    m29b0 (sem tab N d) N [] g (sl29 c k) (ob29 t) = g (sl29 c (k + 1 : Nat)) (ob29 (t.set k [.i .u8 (xorI c x)])) := by
  have c1 : (k : Int) < 64 := by omega
  have c3 : (0 : Int) ≤ k := by omega
  simp -implicitDefEqProofs (maxSteps := 1000000) (disch := first | omega | rfl) [m29b0, sl29, ob29, hk, c1, c3, hl, ht, k_g0, k_gs, k_bnd, k_bndO, k_br_t, k_br_f, k_br_u, k_agree, k_loop, k_add, k_sub, k_mul, k_lss, k_leq, k_gtr, k_geq, k_eql, k_neq, k_rem, k_quo, k_and, k_or, k_xor, k_shl, k_shr, k_seql, k_sneq, k_sadd, k_beql, k_bneq, k_not, k_neg, k_com, k_cv, k_pk, k_gd, k_gdt, k_gdO, k_gdOt, k_ext, k_fA, k_l1, k_l1b, k_l1q, k_l1qb, k_lN, k_lNq, k_atO, k_atE, k_aggO, k_takeO, k_blobAt, k_nthB, k_hd_i, k_hd_b, k_hd_s, k_hd_l, k_hd_e, k_hd_sl, k_rt_l, k_rt_i, k_rt_b, k_rt_s, k_rt_blob, k_st, k_stb, k_stX, k_stE, k_stD, k_stB, k_stG, k_stF, k_stP, k_stQ, k_puris0, k_puris, k_puriC, k_puri_i, k_puri_b, k_puri_l, k_c_agg, k_c_i, k_c_b, k_c_s, k_c_l, k_c_e, k_c_sl, k_c_p, k_sv_agg, k_sv_i, k_sv_b, k_sv_s, k_sv_l, k_sv_e, k_sv_sl, k_sc_i, k_sc_b, k_wd_i, k_wd_b, k_wd_s, k_wd_l, k_wd_e, k_wd_sl, k_wd_p, k_wd_blob, k_al, k_bx, k_new, k_len_l, k_len_e, k_len_sl, k_len_bs, k_lenS, k_cp_e, k_eNs_l, k_eNs_e, k_xS_l, k_xS_sl, k_xSO, k_elQ, k_xA, k_xAq, k_slc_l, k_slc_e, k_slc_sl, k_slL, k_slE, k_slO, k_opt0, k_opt1, k_map0, k_allW0, k_allW1, k_fe0, k_fe1, k_fs0, k_fs1, k_fl_i, k_fl_b, k_fl_l, k_ap, k_cont_l, k_cont_e, k_cont_s, k_cont_sl, k_contL_l, k_contL_e, k_contL_sl, k_contX, k_apC, k_apE_e, k_apE_sl, k_apO, k_apz, k_bldS0, k_bldS, k_bld, k_bldC0, k_bldC, k_eAr, k_b2s, k_b2sC, k_strO, k_ca0, k_ca0X, k_ca0R, k_reiN0, k_reiN1, k_rs1_0, k_rs_0, k_rl_0, k_re_0, k_rs1, k_rs, k_rl, k_re, k_r0_l, k_r0_e, k_r0_i, k_r0_b, k_r0_s, k_r0_blob, k_r0_sl, k_r0_bs, k_r1_agg, k_r1_l, k_r1_e, k_r1_i, k_r1_b, k_r1_s, k_r1_sl, k_r1_bs, k_contL_bs, k_contB, k_r_l, k_r_sl, k_back0, k_back1, k_one1, k_one2, k_handX, k_rowX, k_ca, k_ca_ei, k_fin1, k_fin2, k_res_b, k_res_i, k_res_s, k_res_l, k_res_e, k_res_agg, k_res_sl, k_head, k_head0, k_headF, k_headOK, k_hc0, k_asR_e, k_asR_sl, k_sea_sl, getS, getO, gS, zipN, dropW, takeW, wds, stvs, sea, seaL, refs, refsL, refsEls, refsO, isPureEls, isPures, isPure, noExt, noExts, noExtEls, cellsL, ren, renL, renEls, keepO, keepS, keysO, refsS, refsOB, cntN, headC, setS, boxO, row, putW, putB, putB1, eNl, newOs, frz, renO, noExtO, zps, zp, two32, w64, -getElem?_pos]
  rfl
set_option maxHeartbeats 4000000 in
theorem end29 (N d : Nat) (g : SL → OB → Option R) (t : List (List PV)) (c : Int) (hl : t.length = 64) :
    m29b0 (sem tab N d) N [] g (sl29 c 64) (ob29 t) = some (.sl 0 0 0 64, [row t 1 true]) := by
  have ht : List.take 64 t = t := List.take_of_length_le (by omega)
  simp -implicitDefEqProofs (maxSteps := 1000000) (disch := first | omega | rfl) [m29b0, sl29, ob29, hl, ht, k_g0, k_gs, k_bnd, k_bndO, k_br_t, k_br_f, k_br_u, k_agree, k_loop, k_add, k_sub, k_mul, k_lss, k_leq, k_gtr, k_geq, k_eql, k_neq, k_rem, k_quo, k_and, k_or, k_xor, k_shl, k_shr, k_seql, k_sneq, k_sadd, k_beql, k_bneq, k_not, k_neg, k_com, k_cv, k_pk, k_gd, k_gdt, k_gdO, k_gdOt, k_ext, k_fA, k_l1, k_l1b, k_l1q, k_l1qb, k_lN, k_lNq, k_atO, k_atE, k_aggO, k_takeO, k_blobAt, k_nthB, k_hd_i, k_hd_b, k_hd_s, k_hd_l, k_hd_e, k_hd_sl, k_rt_l, k_rt_i, k_rt_b, k_rt_s, k_rt_blob, k_st, k_stb, k_stX, k_stE, k_stD, k_stB, k_stG, k_stF, k_stP, k_stQ, k_puris0, k_puris, k_puriC, k_puri_i, k_puri_b, k_puri_l, k_c_agg, k_c_i, k_c_b, k_c_s, k_c_l, k_c_e, k_c_sl, k_c_p, k_sv_agg, k_sv_i, k_sv_b, k_sv_s, k_sv_l, k_sv_e, k_sv_sl, k_sc_i, k_sc_b, k_wd_i, k_wd_b, k_wd_s, k_wd_l, k_wd_e, k_wd_sl, k_wd_p, k_wd_blob, k_al, k_bx, k_new, k_len_l, k_len_e, k_len_sl, k_len_bs, k_lenS, k_cp_e, k_eNs_l, k_eNs_e, k_xS_l, k_xS_sl, k_xSO, k_elQ, k_xA, k_xAq, k_slc_l, k_slc_e, k_slc_sl, k_slL, k_slE, k_slO, k_opt0, k_opt1, k_map0, k_allW0, k_allW1, k_fe0, k_fe1, k_fs0, k_fs1, k_fl_i, k_fl_b, k_fl_l, k_ap, k_cont_l, k_cont_e, k_cont_s, k_cont_sl, k_contL_l, k_contL_e, k_contL_sl, k_contX, k_apC, k_apE_e, k_apE_sl, k_apO, k_apz, k_bldS0, k_bldS, k_bld, k_bldC0, k_bldC, k_eAr, k_b2s, k_b2sC, k_strO, k_ca0, k_ca0X, k_ca0R, k_reiN0, k_reiN1, k_rs1_0, k_rs_0, k_rl_0, k_re_0, k_rs1, k_rs, k_rl, k_re, k_r0_l, k_r0_e, k_r0_i, k_r0_b, k_r0_s, k_r0_blob, k_r0_sl, k_r0_bs, k_r1_agg, k_r1_l, k_r1_e, k_r1_i, k_r1_b, k_r1_s, k_r1_sl, k_r1_bs, k_contL_bs, k_contB, k_r_l, k_r_sl, k_back0, k_back1, k_one1, k_one2, k_handX, k_rowX, k_ca, k_ca_ei, k_fin1, k_fin2, k_res_b, k_res_i, k_res_s, k_res_l, k_res_e, k_res_agg, k_res_sl, k_head, k_head0, k_headF, k_headOK, k_hc0, k_asR_e, k_asR_sl, k_sea_sl, getS, getO, gS, zipN, dropW, takeW, wds, stvs, sea, seaL, refs, refsL, refsEls, refsO, isPureEls, isPures, isPure, noExt, noExts, noExtEls, cellsL, ren, renL, renEls, keepO, keepS, keysO, refsS, refsOB, cntN, headC, setS, boxO, row, putW, putB, putB1, eNl, newOs, frz, renO, noExtO, zps, zp, two32, w64, -getElem?_pos]
theorem byL_set (xs : List Int) (j : Nat) (y : Int) : (byL xs).set j [.i .u8 y] = byL (xs.set j y) := by simp [byL, List.map_set]
/-- The first k turned. -/
theorem set_map {f : Int → Int} {bs : List Int} {k : Nat} (h : k < bs.length) : ((bs.take k).map f ++ bs.drop k).set k (f bs[k]) = (bs.take (k + 1)).map f ++ bs.drop (k + 1) := by
  have hl : ((bs.take k).map f).length = k := by simp; omega
  rw [List.set_append_right _ _ (by omega), hl, Nat.sub_self, List.drop_eq_getElem_cons h, List.set_cons_zero, List.take_succ_eq_append_getElem h, List.map_append, List.append_assoc]
  rfl
theorem loop29 (bs : List Int) (hb : bs.length = 64) (c : Int) : ∀ (n k : Nat), k + n = 64 → ∀ N d M : Nat, loopC (m29b0 (sem tab N d) N []) (M + 1 + n) (sl29 c k) (ob29 (byL ((bs.take k).map (xorI c) ++ bs.drop k))) = some (.sl 0 0 0 64, [row (byL (bs.map (xorI c))) 1 true]) := by
  intro n
  induction n with
  | zero =>
    intro k hk N d M
    have : k = 64 := by omega
    subst this
    have e : (bs.take 64).map (xorI c) ++ bs.drop 64 = bs.map (xorI c) := by rw [List.take_of_length_le (by omega), List.drop_of_length_le (by omega), List.append_nil]
    rw [Nat.add_zero, k_loop, e, show ((64 : Nat) : Int) = 64 from rfl, end29 _ _ _ _ _ (by rw [byL_len, List.length_map, hb])]
  | succ n ih =>
    intro k hk N d M
    have hkb : k < bs.length := by omega
    have hl : ((bs.take k).map (xorI c) ++ bs.drop k).length = 64 := by simp; omega
    have gx : ((bs.take k).map (xorI c) ++ bs.drop k)[k]? = some bs[k] := by
      have hl' : ((bs.take k).map (xorI c)).length = k := by simp; omega
      rw [List.getElem?_append_right (by omega), hl', Nat.sub_self, List.getElem?_drop, Nat.add_zero, List.getElem?_eq_getElem hkb]
    rw [show M + 1 + (n + 1) = (M + 1 + n) + 1 by omega, k_loop, step29 N d _ _ c bs[k] k (by omega) (by rw [byL_len]; exact hl) (by rw [byL_get, gx]; rfl), byL_set, set_map hkb]
    exact ih (k + 1) (by omega) N d M
set_option maxHeartbeats 4000000 in
/-- A block padded. -/
theorem L29 (M d : Nat) (xs : List Int) (c : Int) (h : xs.length ≤ 57600) : sem tab (M + 1000) (d + 9) 29 [.l false (byL xs), .i .u8 c] [] = some (.sl 0 0 0 64, [row (byL (padI xs c)) 1 true]) := by
  rw [sem_succ tab (M + 1000) (d + 8) 29 m29 rfl]
  have h31 := L31 M d xs h
  have hl := blockI_len xs
  have h := loop29 (blockI xs) hl c 64 0 rfl (M + 1000) (d + 8) (M + 935)
  rw [List.take_zero, List.map_nil, List.nil_append, List.drop_zero] at h
  change _ = some (PV.sl 0 0 0 64, [row (byL (padI xs c)) 1 true]) at h
  have hbl := byL_len (blockI xs)
  rw [hl] at hbl
  have fb := flat_by (blockI xs)
  have wb := allW_by (blockI xs)
  generalize byL (padI xs c) = p at *
  generalize byL (blockI xs) = b at *
  generalize byL xs = a at *
  have ht : List.take 64 b = b := List.take_of_length_le (by omega)
  simp only [sl29, ob29, row] at h
  simp -implicitDefEqProofs (maxSteps := 1000000) (disch := first | omega | rfl) [m29, h31, hbl, fb, wb, ht, k_g0, k_gs, k_bnd, k_bndO, k_br_t, k_br_f, k_br_u, k_agree, k_loop, k_add, k_sub, k_mul, k_lss, k_leq, k_gtr, k_geq, k_eql, k_neq, k_rem, k_quo, k_and, k_or, k_xor, k_shl, k_shr, k_seql, k_sneq, k_sadd, k_beql, k_bneq, k_not, k_neg, k_com, k_cv, k_pk, k_gd, k_gdt, k_gdO, k_gdOt, k_ext, k_fA, k_l1, k_l1b, k_l1q, k_l1qb, k_lN, k_lNq, k_atO, k_atE, k_aggO, k_takeO, k_blobAt, k_nthB, k_hd_i, k_hd_b, k_hd_s, k_hd_l, k_hd_e, k_hd_sl, k_rt_l, k_rt_i, k_rt_b, k_rt_s, k_rt_blob, k_st, k_stb, k_stX, k_stE, k_stD, k_stB, k_stG, k_stF, k_stP, k_stQ, k_puris0, k_puris, k_puriC, k_puri_i, k_puri_b, k_puri_l, k_c_agg, k_c_i, k_c_b, k_c_s, k_c_l, k_c_e, k_c_sl, k_c_p, k_sv_agg, k_sv_i, k_sv_b, k_sv_s, k_sv_l, k_sv_e, k_sv_sl, k_sc_i, k_sc_b, k_wd_i, k_wd_b, k_wd_s, k_wd_l, k_wd_e, k_wd_sl, k_wd_p, k_wd_blob, k_al, k_bx, k_new, k_len_l, k_len_e, k_len_sl, k_len_bs, k_lenS, k_cp_e, k_eNs_l, k_eNs_e, k_xS_l, k_xS_sl, k_xSO, k_elQ, k_xA, k_xAq, k_slc_l, k_slc_e, k_slc_sl, k_slL, k_slE, k_slO, k_opt0, k_opt1, k_map0, k_allW0, k_allW1, k_fe0, k_fe1, k_fs0, k_fs1, k_fl_i, k_fl_b, k_fl_l, k_ap, k_cont_l, k_cont_e, k_cont_s, k_cont_sl, k_contL_l, k_contL_e, k_contL_sl, k_contX, k_apC, k_apE_e, k_apE_sl, k_apO, k_apz, k_bldS0, k_bldS, k_bld, k_bldC0, k_bldC, k_eAr, k_b2s, k_b2sC, k_strO, k_ca0, k_ca0X, k_ca0R, k_reiN0, k_reiN1, k_rs1_0, k_rs_0, k_rl_0, k_re_0, k_rs1, k_rs, k_rl, k_re, k_r0_l, k_r0_e, k_r0_i, k_r0_b, k_r0_s, k_r0_blob, k_r0_sl, k_r0_bs, k_r1_agg, k_r1_l, k_r1_e, k_r1_i, k_r1_b, k_r1_s, k_r1_sl, k_r1_bs, k_contL_bs, k_contB, k_r_l, k_r_sl, k_back0, k_back1, k_one1, k_one2, k_handX, k_rowX, k_ca, k_ca_ei, k_fin1, k_fin2, k_res_b, k_res_i, k_res_s, k_res_l, k_res_e, k_res_agg, k_res_sl, k_head, k_head0, k_headF, k_headOK, k_hc0, k_asR_e, k_asR_sl, k_sea_sl, getS, getO, gS, zipN, dropW, takeW, wds, stvs, sea, seaL, refs, refsL, refsEls, refsO, isPureEls, isPures, isPure, noExt, noExts, noExtEls, cellsL, ren, renL, renEls, keepO, keepS, keysO, refsS, refsOB, cntN, headC, setS, boxO, row, putW, putB, putB1, eNl, newOs, frz, renO, noExtO, zps, zp, two32, w64, -getElem?_pos]
  exact h
end Go.Proofs.YtbobbkgdbfcblaaDoor
