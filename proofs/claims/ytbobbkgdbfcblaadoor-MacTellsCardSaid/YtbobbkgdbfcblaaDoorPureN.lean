/- Plain lemmas: the closure of a tag; a tag. -/
import Derived.Test.YtbobbkgdbfcblaaDoorPureM
set_option linter.all false
set_option linter.unusedSimpArgs false
set_option linter.unusedVariables false
namespace Go.Proofs.YtbobbkgdbfcblaaDoor
open Go
def hz10 (zz : List PV) : List PV := [.blob 8 zz, .e true, .i .i64 0]
def sl41 (c k : Int) : SL := [(0, .i .u8 c), (3, .p 88 0 0 0 none), (4, .sl 103 0 0 64), (10, .sl 1 0 0 64), (11, .i .i64 64), (12, .i .i64 k)]
def ob41 (zz : List PV) (b t : List (List PV)) : OB := [(103, row t 1 true), (88, box (hz10 zz) 10), (0, box [.sl 1 0 0 64] 1), (1, row b 1 true)]
set_option maxHeartbeats 4000000 in
theorem step41 (N d : Nat) (g : SL → OB → Option R) (zz : List PV) (b t : List (List PV)) (c x y : Int) (k : Nat) (hk : k < 64) (hl : t.length = 64) (hb : b.length = 64) (ht : b[k]? = some [.i .u8 x]) (hy : t[k]? = some [.i .u8 y]) :
    m41b0 (sem tab N d) N [box [.sl 1 0 0 64] 1, row b 1 true] g (sl41 c k) (ob41 zz b t) = g (sl41 c (k + 1 : Nat)) (ob41 zz b (t.set k [.i .u8 (xorI c x)])) := by
  have c1 : (k : Int) < 64 := by omega
  have c3 : (0 : Int) ≤ k := by omega
  simp -implicitDefEqProofs (maxSteps := 1000000) (disch := first | omega | rfl) [m41b0, sl41, ob41, hz10, box, hk, c1, c3, hl, hb, ht, hy, k_g0, k_gs, k_bnd, k_bndO, k_br_t, k_br_f, k_br_u, k_agree, k_loop, k_add, k_sub, k_mul, k_lss, k_leq, k_gtr, k_geq, k_eql, k_neq, k_rem, k_quo, k_and, k_or, k_xor, k_shl, k_shr, k_seql, k_sneq, k_sadd, k_beql, k_bneq, k_not, k_neg, k_com, k_cv, k_pk, k_gd, k_gdt, k_gdO, k_gdOt, k_ext, k_fA, k_l1, k_l1b, k_l1q, k_l1qb, k_lN, k_lNq, k_atO, k_atE, k_aggO, k_takeO, k_blobAt, k_nthB, k_hd_i, k_hd_b, k_hd_s, k_hd_l, k_hd_e, k_hd_sl, k_rt_l, k_rt_i, k_rt_b, k_rt_s, k_rt_blob, k_st, k_stb, k_stX, k_stE, k_stD, k_stB, k_stG, k_stF, k_stP, k_stQ, k_puris0, k_puris, k_puriC, k_puri_i, k_puri_b, k_puri_l, k_c_agg, k_c_i, k_c_b, k_c_s, k_c_l, k_c_e, k_c_sl, k_c_p, k_sv_agg, k_sv_i, k_sv_b, k_sv_s, k_sv_l, k_sv_e, k_sv_sl, k_sc_i, k_sc_b, k_wd_i, k_wd_b, k_wd_s, k_wd_l, k_wd_e, k_wd_sl, k_wd_p, k_wd_blob, k_al, k_bx, k_new, k_len_l, k_len_e, k_len_sl, k_len_bs, k_lenS, k_cp_e, k_eNs_l, k_eNs_e, k_xS_l, k_xS_sl, k_xSO, k_elQ, k_xA, k_xAq, k_slc_l, k_slc_e, k_slc_sl, k_slL, k_slE, k_slO, k_opt0, k_opt1, k_map0, k_allW0, k_allW1, k_fe0, k_fe1, k_fs0, k_fs1, k_fl_i, k_fl_b, k_fl_l, k_ap, k_cont_l, k_cont_e, k_cont_s, k_cont_sl, k_contL_l, k_contL_e, k_contL_sl, k_contX, k_apC, k_apE_e, k_apE_sl, k_apO, k_apz, k_bldS0, k_bldS, k_bld, k_bldC0, k_bldC, k_eAr, k_b2s, k_b2sC, k_strO, k_ca0, k_ca0X, k_ca0R, k_reiN0, k_reiN1, k_rs1_0, k_rs_0, k_rl_0, k_re_0, k_rs1, k_rs, k_rl, k_re, k_r0_l, k_r0_e, k_r0_i, k_r0_b, k_r0_s, k_r0_blob, k_r0_sl, k_r0_bs, k_r1_agg, k_r1_l, k_r1_e, k_r1_i, k_r1_b, k_r1_s, k_r1_sl, k_r1_bs, k_contL_bs, k_contB, k_r_l, k_r_sl, k_back0, k_back1, k_one1, k_one2, k_handX, k_rowX, k_ca, k_ca_ei, k_fin1, k_fin2, k_res_b, k_res_i, k_res_s, k_res_l, k_res_e, k_res_agg, k_res_sl, k_head, k_head0, k_headF, k_headOK, k_hc0, k_asR_e, k_asR_sl, k_sea_sl, getS, getO, gS, zipN, dropW, takeW, wds, stvs, sea, seaL, refs, refsL, refsEls, refsO, isPureEls, isPures, isPure, noExt, noExts, noExtEls, cellsL, ren, renL, renEls, keepO, keepS, keysO, refsS, refsOB, cntN, headC, setS, boxO, row, putW, putB, putB1, eNl, newOs, frz, renO, noExtO, zps, zp, two32, w64, -getElem?_pos]
  rfl
set_option maxHeartbeats 4000000 in
theorem end41 (M d : Nat) (g : SL → OB → Option R) (zz : List PV) (b : List (List PV)) (ts : List Int) (c : Int) (hl : ts.length = 64) :
    m41b0 (sem tab (M + 1000) (d + 6)) (M + 1000) [box [.sl 1 0 0 64] 1, row b 1 true] g (sl41 c 64) (ob41 zz b (byL ts)) = some (hashV (rounds nFirst ts).1 true (rounds nFirst ts).2 64, [box [.sl 1 0 0 64] 1, row b 1 true]) := by
  have h21 := L21 (M + 1000) (d + 5)
  have h19 := L19 M d nFirst [] ts 0 rfl may_zero (by omega) (by simp; omega)
  rw [List.nil_append, Int.zero_add, hl, show ((64 : Nat) : Int) = 64 from rfl] at h19
  have hlt := byL_len ts
  rw [hl] at hlt
  have ht : List.take 64 (byL ts) = byL ts := List.take_of_length_le (by omega)
  have hb0 : byL [] = [] := rfl
  simp only [hashV_wL, hb0] at h21 h19 ⊢
  generalize byL (rounds nFirst ts).2 = q at *
  generalize wL (rounds nFirst ts).1 = r2 at *
  generalize wL nFirst = r at *
  generalize byL ts = t at *
  simp -implicitDefEqProofs (maxSteps := 1000000) (disch := first | omega | rfl) [m41b0, sl41, ob41, hz10, box, hlt, ht, h21, h19, fin, resOs, refsOuts, refsX, outOs, outX, seaEls, seaL, one, k_g0, k_gs, k_bnd, k_bndO, k_br_t, k_br_f, k_br_u, k_agree, k_loop, k_add, k_sub, k_mul, k_lss, k_leq, k_gtr, k_geq, k_eql, k_neq, k_rem, k_quo, k_and, k_or, k_xor, k_shl, k_shr, k_seql, k_sneq, k_sadd, k_beql, k_bneq, k_not, k_neg, k_com, k_cv, k_pk, k_gd, k_gdt, k_gdO, k_gdOt, k_ext, k_fA, k_l1, k_l1b, k_l1q, k_l1qb, k_lN, k_lNq, k_atO, k_atE, k_aggO, k_takeO, k_blobAt, k_nthB, k_hd_i, k_hd_b, k_hd_s, k_hd_l, k_hd_e, k_hd_sl, k_rt_l, k_rt_i, k_rt_b, k_rt_s, k_rt_blob, k_st, k_stb, k_stX, k_stE, k_stD, k_stB, k_stG, k_stF, k_stP, k_stQ, k_puris0, k_puris, k_puriC, k_puri_i, k_puri_b, k_puri_l, k_c_agg, k_c_i, k_c_b, k_c_s, k_c_l, k_c_e, k_c_sl, k_c_p, k_sv_agg, k_sv_i, k_sv_b, k_sv_s, k_sv_l, k_sv_e, k_sv_sl, k_sc_i, k_sc_b, k_wd_i, k_wd_b, k_wd_s, k_wd_l, k_wd_e, k_wd_sl, k_wd_p, k_wd_blob, k_al, k_bx, k_new, k_len_l, k_len_e, k_len_sl, k_len_bs, k_lenS, k_cp_e, k_eNs_l, k_eNs_e, k_xS_l, k_xS_sl, k_xSO, k_elQ, k_xA, k_xAq, k_slc_l, k_slc_e, k_slc_sl, k_slL, k_slE, k_slO, k_opt0, k_opt1, k_map0, k_allW0, k_allW1, k_fe0, k_fe1, k_fs0, k_fs1, k_fl_i, k_fl_b, k_fl_l, k_ap, k_cont_l, k_cont_e, k_cont_s, k_cont_sl, k_contL_l, k_contL_e, k_contL_sl, k_contX, k_apC, k_apE_e, k_apE_sl, k_apO, k_apz, k_bldS0, k_bldS, k_bld, k_bldC0, k_bldC, k_eAr, k_b2s, k_b2sC, k_strO, k_ca0, k_ca0X, k_ca0R, k_reiN0, k_reiN1, k_rs1_0, k_rs_0, k_rl_0, k_re_0, k_rs1, k_rs, k_rl, k_re, k_r0_l, k_r0_e, k_r0_i, k_r0_b, k_r0_s, k_r0_blob, k_r0_sl, k_r0_bs, k_r1_agg, k_r1_l, k_r1_e, k_r1_i, k_r1_b, k_r1_s, k_r1_sl, k_r1_bs, k_contL_bs, k_contB, k_r_l, k_r_sl, k_back0, k_back1, k_one1, k_one2, k_handX, k_rowX, k_ca, k_ca_ei, k_fin1, k_fin2, k_res_b, k_res_i, k_res_s, k_res_l, k_res_e, k_res_agg, k_res_sl, k_head, k_head0, k_headF, k_headOK, k_hc0, k_asR_e, k_asR_sl, k_sea_sl, getS, getO, gS, zipN, dropW, takeW, wds, stvs, sea, seaL, refs, refsL, refsEls, refsO, isPureEls, isPures, isPure, noExt, noExts, noExtEls, cellsL, ren, renL, renEls, keepO, keepS, keysO, refsS, refsOB, cntN, headC, setS, boxO, row, putW, putB, putB1, eNl, newOs, frz, renO, noExtO, zps, zp, two32, w64, -getElem?_pos]
/-- The first k turned, noughts behind. -/
theorem set_map0 {f : Int → Int} {bs : List Int} {k : Nat} (h : k < bs.length) (hb : bs.length = 64) : ((bs.take k).map f ++ List.replicate (64 - k) 0).set k (f bs[k]) = (bs.take (k + 1)).map f ++ List.replicate (64 - (k + 1)) 0 := by
  have hl : ((bs.take k).map f).length = k := by simp; omega
  rw [List.set_append_right _ _ (by omega), hl, Nat.sub_self, show 64 - k = (64 - (k + 1)) + 1 by omega, List.replicate_succ, List.set_cons_zero, List.take_succ_eq_append_getElem h, List.map_append, List.append_assoc]
  rfl
theorem loop41 (bs : List Int) (hb : bs.length = 64) (zz : List PV) (c : Int) : ∀ (n k : Nat), k + n = 64 → ∀ M d M' : Nat, loopC (m41b0 (sem tab (M + 1000) (d + 6)) (M + 1000) [box [.sl 1 0 0 64] 1, row (byL bs) 1 true]) (M' + 1 + n) (sl41 c k) (ob41 zz (byL bs) (byL ((bs.take k).map (xorI c) ++ List.replicate (64 - k) 0))) = some (hashV (rounds nFirst (bs.map (xorI c))).1 true (rounds nFirst (bs.map (xorI c))).2 64, [box [.sl 1 0 0 64] 1, row (byL bs) 1 true]) := by
  intro n
  induction n with
  | zero =>
    intro k hk M d M'
    have : k = 64 := by omega
    subst this
    have e : (bs.take 64).map (xorI c) ++ List.replicate (64 - 64) 0 = bs.map (xorI c) := by rw [List.take_of_length_le (by omega), Nat.sub_self, List.replicate_zero, List.append_nil]
    rw [Nat.add_zero, k_loop, e, show ((64 : Nat) : Int) = 64 from rfl, end41 _ _ _ _ _ _ _ (by rw [List.length_map, hb])]
  | succ n ih =>
    intro k hk M d M'
    have hkb : k < bs.length := by omega
    have hl' : ((bs.take k).map (xorI c)).length = k := by simp; omega
    have hl : ((bs.take k).map (xorI c) ++ List.replicate (64 - k) 0).length = 64 := by simp; omega
    have gx : ((bs.take k).map (xorI c) ++ List.replicate (64 - k) 0)[k]? = some 0 := by
      rw [List.getElem?_append_right (by omega), hl', Nat.sub_self, List.getElem?_replicate, if_pos (by omega)]
    rw [show M' + 1 + (n + 1) = (M' + 1 + n) + 1 by omega, k_loop, step41 (M + 1000) (d + 6) _ zz (byL bs) _ c bs[k] 0 k (by omega) (by rw [byL_len]; exact hl) (by rw [byL_len]; exact hb) (by rw [byL_get, List.getElem?_eq_getElem hkb]; rfl) (by rw [byL_get, gx]; rfl), byL_set, set_map0 hkb hb]
    exact ih (k + 1) (by omega) M d M'
set_option maxHeartbeats 4000000 in
/-- The closure: a state that a turned block was added to. -/
theorem L41 (M d : Nat) (bs : List Int) (hb : bs.length = 64) (c : Int) : sem tab (M + 1000) (d + 7) 41 [.i .u8 c, .p 0 0 0 0 none] [box [.sl 1 0 0 64] 1, row (byL bs) 1 true] = some (hashV (rounds nFirst (bs.map (xorI c))).1 true (rounds nFirst (bs.map (xorI c))).2 64, [box [.sl 1 0 0 64] 1, row (byL bs) 1 true]) := by
  rw [sem_succ tab (M + 1000) (d + 6) 41 m41 rfl]
  have h := loop41 bs hb (List.replicate 8 (.i .u32 0)) c 64 0 rfl M d (M + 935)
  rw [List.take_zero, List.map_nil, List.nil_append, Nat.sub_zero, ← zrow_by] at h
  have hbl := byL_len bs
  rw [hb] at hbl
  generalize hashV (rounds nFirst (bs.map (xorI c))).1 true (rounds nFirst (bs.map (xorI c))).2 64 = v at *
  generalize byL bs = b at *
  generalize hz : List.replicate 8 (PV.i IntKind.u32 0) = zz at *
  have zl := zrow_len 64
  generalize hzr : zrow 64 = zr at *
  simp only [sl41, ob41, hz10, box, row] at h
  simp -implicitDefEqProofs (maxSteps := 1000000) (disch := first | omega | rfl) [m41, hz, hzr, zl, hbl, box, k_mks64, k_g0, k_gs, k_bnd, k_bndO, k_br_t, k_br_f, k_br_u, k_agree, k_loop, k_add, k_sub, k_mul, k_lss, k_leq, k_gtr, k_geq, k_eql, k_neq, k_rem, k_quo, k_and, k_or, k_xor, k_shl, k_shr, k_seql, k_sneq, k_sadd, k_beql, k_bneq, k_not, k_neg, k_com, k_cv, k_pk, k_gd, k_gdt, k_gdO, k_gdOt, k_ext, k_fA, k_l1, k_l1b, k_l1q, k_l1qb, k_lN, k_lNq, k_atO, k_atE, k_aggO, k_takeO, k_blobAt, k_nthB, k_hd_i, k_hd_b, k_hd_s, k_hd_l, k_hd_e, k_hd_sl, k_rt_l, k_rt_i, k_rt_b, k_rt_s, k_rt_blob, k_st, k_stb, k_stX, k_stE, k_stD, k_stB, k_stG, k_stF, k_stP, k_stQ, k_puris0, k_puris, k_puriC, k_puri_i, k_puri_b, k_puri_l, k_c_agg, k_c_i, k_c_b, k_c_s, k_c_l, k_c_e, k_c_sl, k_c_p, k_sv_agg, k_sv_i, k_sv_b, k_sv_s, k_sv_l, k_sv_e, k_sv_sl, k_sc_i, k_sc_b, k_wd_i, k_wd_b, k_wd_s, k_wd_l, k_wd_e, k_wd_sl, k_wd_p, k_wd_blob, k_al, k_bx, k_new, k_len_l, k_len_e, k_len_sl, k_len_bs, k_lenS, k_cp_e, k_eNs_l, k_eNs_e, k_xS_l, k_xS_sl, k_xSO, k_elQ, k_xA, k_xAq, k_slc_l, k_slc_e, k_slc_sl, k_slL, k_slE, k_slO, k_opt0, k_opt1, k_map0, k_allW0, k_allW1, k_fe0, k_fe1, k_fs0, k_fs1, k_fl_i, k_fl_b, k_fl_l, k_ap, k_cont_l, k_cont_e, k_cont_s, k_cont_sl, k_contL_l, k_contL_e, k_contL_sl, k_contX, k_apC, k_apE_e, k_apE_sl, k_apO, k_apz, k_bldS0, k_bldS, k_bld, k_bldC0, k_bldC, k_eAr, k_b2s, k_b2sC, k_strO, k_ca0, k_ca0X, k_ca0R, k_reiN0, k_reiN1, k_rs1_0, k_rs_0, k_rl_0, k_re_0, k_rs1, k_rs, k_rl, k_re, k_r0_l, k_r0_e, k_r0_i, k_r0_b, k_r0_s, k_r0_blob, k_r0_sl, k_r0_bs, k_r1_agg, k_r1_l, k_r1_e, k_r1_i, k_r1_b, k_r1_s, k_r1_sl, k_r1_bs, k_contL_bs, k_contB, k_r_l, k_r_sl, k_back0, k_back1, k_one1, k_one2, k_handX, k_rowX, k_ca, k_ca_ei, k_fin1, k_fin2, k_res_b, k_res_i, k_res_s, k_res_l, k_res_e, k_res_agg, k_res_sl, k_head, k_head0, k_headF, k_headOK, k_hc0, k_asR_e, k_asR_sl, k_sea_sl, getS, getO, gS, zipN, dropW, takeW, wds, stvs, sea, seaL, refs, refsL, refsEls, refsO, isPureEls, isPures, isPure, noExt, noExts, noExtEls, cellsL, ren, renL, renEls, keepO, keepS, keysO, refsS, refsOB, cntN, headC, setS, boxO, row, putW, putB, putB1, eNl, newOs, frz, renO, noExtO, zps, zp, two32, w64, -getElem?_pos]
  exact h
end Go.Proofs.YtbobbkgdbfcblaaDoor
