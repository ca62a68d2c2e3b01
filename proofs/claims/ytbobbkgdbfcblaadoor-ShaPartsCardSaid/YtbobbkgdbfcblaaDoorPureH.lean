/- Plain lemmas: the sum's loops, the sum of a state, the sum of bytes. -/
import Derived.Test.YtbobbkgdbfcblaaDoorPureF
import Derived.Test.YtbobbkgdbfcblaaDoorPureG
set_option linter.all false
set_option linter.unusedSimpArgs false
set_option linter.unusedVariables false
namespace Go.Proofs.YtbobbkgdbfcblaaDoor
open Go
def uL (ns : List Int) : List PV := ns.map (.i .u8)
theorem uL_set (ws : List Int) (j : Nat) (y : Int) : (uL ws).set j (.i .u8 y) = uL (ws.set j y) := by simp [uL, List.map_set]
theorem uL_len (ws : List Int) : (uL ws).length = ws.length := by simp [uL]
theorem byL_app1 (ts : List Int) (y : Int) : byL ts ++ [[.i .u8 y]] = byL (ts ++ [y]) := by simp [byL]
theorem byL_app (xs ys : List Int) : byL xs ++ byL ys = byL (xs ++ ys) := by simp [byL]
theorem loop24a (rs : List Int) (hr : rs.length = 8) (z : List PV) : ∀ (n k : Nat) (o : List Int), k + n = 8 → o.length = 32 → ∃ o' : List Int, o'.length = 32 ∧ ∀ N d M : Nat, loopC (m24b0 (sem tab N d) N []) (M + 1 + n) (sl24a (wL rs) k) (ob24a z (uL o)) = some (.agg [.blob 32 (uL o')], []) := by
  intro n
  induction n with
  | zero =>
    intro k o hk ho
    have : k = 8 := by omega
    subst this
    exact ⟨o, ho, fun N d M => by rw [Nat.add_zero, k_loop]; exact end24a N d _ _ _ _⟩
  | succ n ih =>
    intro k o hk ho
    obtain ⟨x, hx⟩ := get_of hr (show k < 8 by omega)
    obtain ⟨y0, y1, y2, y3, hy⟩ := step24a (wL rs) z (uL o) k x (by omega) (by rw [wL_get, hx]; rfl) (by rw [uL_len]; exact ho)
    obtain ⟨o', h1, h2⟩ := ih (k + 1) ((((o.set (4 * k) y0).set (4 * k + 1) y1).set (4 * k + 2) y2).set (4 * k + 3) y3) (by omega) (by simpa using ho)
    refine ⟨o', h1, fun N d M => ?_⟩
    rw [show M + 1 + (n + 1) = (M + 1 + n) + 1 by omega, k_loop, hy, uL_set, uL_set, uL_set, uL_set]
    exact h2 N d M
theorem zero32 : List.replicate 32 (PV.i IntKind.u8 0) = uL (List.replicate 32 0) := by simp [uL]
theorem loop24b (rs : List Int) (hr : rs.length = 8) (b : List (List PV)) (L v : Int) (z : List PV) : ∀ (n k : Nat) (ts : List Int), k + n = 8 → ts.length + n ≤ 57600 → ∃ o' : List Int, o'.length = 32 ∧ ∀ M d M' : Nat, loopC (m24b1 (sem tab (M + 1000) (d + 5)) (M + 1000) []) (M' + 1 + n) (sl24b ts.length v k) (ob24 [.blob 8 (wL rs), .l false b, .i .i64 L] z (byL ts)) = some (.agg [.blob 32 (uL o')], []) := by
  intro n
  induction n with
  | zero =>
    intro k ts hk ht
    have : k = 8 := by omega
    subst this
    obtain ⟨o', h1, h2⟩ := loop24a (rounds rs ts).1 (rounds_len _ rs ts (Nat.le_refl _) hr).1 z 8 0 (List.replicate 32 0) rfl (by simp)
    refine ⟨o', h1, fun M d M' => ?_⟩
    rw [Nat.add_zero, k_loop, show ((8 : Nat) : Int) = 8 from rfl, mid24b M d _ rs ts b L v z hr (by omega), zero32]
    exact h2 (M + 1000) (d + 5) (M + 991)
  | succ n ih =>
    intro k ts hk ht
    obtain ⟨y, hy⟩ := step24b (wL rs) z b (byL ts) L v k (by omega) (by rw [byL_len]; omega)
    obtain ⟨o', h1, h2⟩ := ih (k + 1) (ts ++ [y]) (by omega) (by simp; omega)
    refine ⟨o', h1, fun M d M' => ?_⟩
    have hy := hy (M + 1000) (d + 5) (loopC (m24b1 (sem tab (M + 1000) (d + 5)) (M + 1000) []) (M' + 1 + n))
    rw [byL_len] at hy
    rw [show M' + 1 + (n + 1) = (M' + 1 + n) + 1 by omega, k_loop, hy, byL_app1]
    have := h2 M d M'
    rw [List.length_append] at this
    exact this
theorem loop24c (rs : List Int) (hr : rs.length = 8) (b : List (List PV)) (L : Int) (z : List PV) : ∀ (n : Nat) (ts : List Int), (ts.length + n) % 64 = 56 → n < 64 → ts.length + n ≤ 57500 → ∃ o' : List Int, o'.length = 32 ∧ ∀ M d M' : Nat, loopC (m24b2 (sem tab (M + 1000) (d + 5)) (M + 1000) []) (M' + 1 + n) (sl24 ts.length) (ob24 [.blob 8 (wL rs), .l false b, .i .i64 L] z (byL ts)) = some (.agg [.blob 32 (uL o')], []) := by
  intro n
  induction n with
  | zero =>
    intro ts h _ hl
    have htm : ((ts.length : Int).tmod 64) = 56 := by
      rw [Int.tmod_eq_emod_of_nonneg (by omega)]; omega
    obtain ⟨v, hv⟩ := mid24c (wL rs) z b (byL ts) L (by rw [byL_len]; exact htm)
    obtain ⟨o', h1, h2⟩ := loop24b rs hr b L v z 8 0 ts rfl (by omega)
    refine ⟨o', h1, fun M d M' => ?_⟩
    have hv := hv (M + 1000) (d + 5) (loopC (m24b2 (sem tab (M + 1000) (d + 5)) (M + 1000) []) M')
    rw [byL_len] at hv
    rw [Nat.add_zero, k_loop, hv]
    exact h2 M d (M + 991)
  | succ n ih =>
    intro ts h hn hl
    have htm : ((ts.length : Int).tmod 64) ≠ 56 := by
      rw [Int.tmod_eq_emod_of_nonneg (by omega)]; omega
    obtain ⟨o', h1, h2⟩ := ih (ts ++ [0]) (by simp only [List.length_append, List.length_singleton]; omega) (by omega) (by simp only [List.length_append, List.length_singleton]; omega)
    refine ⟨o', h1, fun M d M' => ?_⟩
    have hy := step24c (M + 1000) (d + 5) (loopC (m24b2 (sem tab (M + 1000) (d + 5)) (M + 1000) []) (M' + 1 + n)) (wL rs) z z b (byL ts) L (by rw [byL_len]; exact htm) (by rw [byL_len]; omega)
    rw [byL_len] at hy
    rw [show M' + 1 + (n + 1) = (M' + 1 + n) + 1 by omega, k_loop, hy, byL_app1]
    have := h2 M d M'
    rw [List.length_append] at this
    exact this
theorem pad_of (n : Nat) : ∃ k, k < 64 ∧ (n + k) % 64 = 56 := ⟨(120 - n % 64) % 64, by omega, by omega⟩
set_option maxHeartbeats 4000000 in
/-- The sum of a state. -/
theorem E24 (ns xs : List Int) (L : Int) (hn : ns.length = 8) : ∃ o : List Int, o.length = 32 ∧ ∀ M d : Nat, sem tab (M + 1000) (d + 6) 24 [hashV ns false xs L] [] = some (.agg [.blob 32 (uL o)], []) := by
  by_cases hm : mayB xs.length L = true
  · have hx : xs.length < 64 := by
      simp [mayB] at hm
      obtain ⟨h0, h1, h2⟩ := hm
      rw [Int.tmod_eq_emod_of_nonneg h0] at h2; omega
    obtain ⟨k, hk, hp⟩ := pad_of (xs ++ [128]).length
    obtain ⟨o, h1, h2⟩ := loop24c ns hn (byL xs) L (List.replicate 32 (.i .u8 0)) k (xs ++ [128]) hp hk (by simp only [List.length_append, List.length_singleton]; omega)
    refine ⟨o, h1, fun M d => ?_⟩
    have h2 := h2 M d (M + 999 - k)
    rw [show M + 999 - k + 1 + k = M + 1000 by omega] at h2
    rw [sem_succ tab (M + 1000) (d + 5) 24 m24 rfl]
    have h23 := L23 (M + 1000) (d + 4) ns xs L
    rw [hm] at h23
    have h39 := L39 (M + 1000) (d + 4) xs (by omega)
    have hlx := byL_len xs
    rw [← byL_app1] at h2
    rw [List.length_append, ← hlx] at h2
    rw [← hlx] at h39 hx
    simp only [hashV_wL] at h23 ⊢
    generalize byL xs = a at *
    generalize wL ns = r at *
    generalize hz : List.replicate 32 (PV.i IntKind.u8 0) = zz at *
    have ht : List.take a.length a = a := List.take_length
    have q1 : a.length + 1 ≤ 4294967296 := by omega
    have q2 : ¬ (a.length + 1 ≤ a.length) := by omega
    simp only [sl24, ob24, box, row, List.length_singleton] at h2
    simp -implicitDefEqProofs (maxSteps := 1000000) (disch := first | omega | rfl) [m24, hz, h23, h39, ht, q1, q2, k_g0, k_gs, k_bnd, k_bndO, k_br_t, k_br_f, k_br_u, k_agree, k_loop, k_add, k_sub, k_mul, k_lss, k_leq, k_gtr, k_geq, k_eql, k_neq, k_rem, k_quo, k_and, k_or, k_xor, k_shl, k_shr, k_seql, k_sneq, k_sadd, k_beql, k_bneq, k_not, k_neg, k_com, k_cv, k_pk, k_gd, k_gdt, k_gdO, k_gdOt, k_ext, k_fA, k_l1, k_l1b, k_l1q, k_l1qb, k_lN, k_lNq, k_atO, k_atE, k_aggO, k_takeO, k_blobAt, k_nthB, k_hd_i, k_hd_b, k_hd_s, k_hd_l, k_hd_e, k_hd_sl, k_rt_l, k_rt_i, k_rt_b, k_rt_s, k_rt_blob, k_st, k_stb, k_stX, k_stE, k_stD, k_stB, k_stG, k_stF, k_stP, k_stQ, k_puris0, k_puris, k_puriC, k_puri_i, k_puri_b, k_puri_l, k_c_agg, k_c_i, k_c_b, k_c_s, k_c_l, k_c_e, k_c_sl, k_c_p, k_sv_agg, k_sv_i, k_sv_b, k_sv_s, k_sv_l, k_sv_e, k_sv_sl, k_sc_i, k_sc_b, k_wd_i, k_wd_b, k_wd_s, k_wd_l, k_wd_e, k_wd_sl, k_wd_p, k_wd_blob, k_al, k_bx, k_new, k_len_l, k_len_e, k_len_sl, k_len_bs, k_lenS, k_cp_e, k_eNs_l, k_eNs_e, k_xS_l, k_xS_sl, k_xSO, k_elQ, k_xA, k_xAq, k_slc_l, k_slc_e, k_slc_sl, k_slL, k_slE, k_slO, k_opt0, k_opt1, k_map0, k_allW0, k_allW1, k_fe0, k_fe1, k_fs0, k_fs1, k_fl_i, k_fl_b, k_fl_l, k_ap, k_cont_l, k_cont_e, k_cont_s, k_cont_sl, k_contL_l, k_contL_e, k_contL_sl, k_contX, k_apC, k_apE_e, k_apE_sl, k_apO, k_apz, k_bldS0, k_bldS, k_bld, k_bldC0, k_bldC, k_eAr, k_b2s, k_b2sC, k_strO, k_ca0, k_ca0X, k_ca0R, k_reiN0, k_reiN1, k_rs1_0, k_rs_0, k_rl_0, k_re_0, k_rs1, k_rs, k_rl, k_re, k_r0_l, k_r0_e, k_r0_i, k_r0_b, k_r0_s, k_r0_blob, k_r0_sl, k_r0_bs, k_r1_agg, k_r1_l, k_r1_e, k_r1_i, k_r1_b, k_r1_s, k_r1_sl, k_r1_bs, k_contL_bs, k_contB, k_r_l, k_r_sl, k_back0, k_back1, k_one1, k_one2, k_handX, k_rowX, k_ca, k_ca_ei, k_fin1, k_fin2, k_res_b, k_res_i, k_res_s, k_res_l, k_res_e, k_res_agg, k_res_sl, k_head, k_head0, k_headF, k_headOK, k_hc0, k_asR_e, k_asR_sl, k_sea_sl, getS, getO, gS, zipN, dropW, takeW, wds, stvs, sea, seaL, refs, refsL, refsEls, refsO, isPureEls, isPures, isPure, noExt, noExts, noExtEls, cellsL, ren, renL, renEls, keepO, keepS, keysO, refsS, refsOB, cntN, headC, setS, boxO, row, putW, putB, putB1, eNl, newOs, frz, renO, noExtO, zps, zp, two32, w64, -getElem?_pos]
    exact h2
  · have hm : mayB xs.length L = false := by simpa using hm
    refine ⟨List.replicate 32 0, by simp, fun M d => ?_⟩
    rw [sem_succ tab (M + 1000) (d + 5) 24 m24 rfl]
    have h23 := L23 (M + 1000) (d + 4) ns xs L
    rw [hm] at h23
    rw [← zero32]
    simp only [hashV_wL] at h23 ⊢
    generalize byL xs = a at *
    generalize wL ns = r at *
    generalize hz : List.replicate 32 (PV.i IntKind.u8 0) = zz at *
    simp -implicitDefEqProofs (maxSteps := 1000000) (disch := first | omega | rfl) [m24, hz, h23, k_g0, k_gs, k_bnd, k_bndO, k_br_t, k_br_f, k_br_u, k_agree, k_loop, k_add, k_sub, k_mul, k_lss, k_leq, k_gtr, k_geq, k_eql, k_neq, k_rem, k_quo, k_and, k_or, k_xor, k_shl, k_shr, k_seql, k_sneq, k_sadd, k_beql, k_bneq, k_not, k_neg, k_com, k_cv, k_pk, k_gd, k_gdt, k_gdO, k_gdOt, k_ext, k_fA, k_l1, k_l1b, k_l1q, k_l1qb, k_lN, k_lNq, k_atO, k_atE, k_aggO, k_takeO, k_blobAt, k_nthB, k_hd_i, k_hd_b, k_hd_s, k_hd_l, k_hd_e, k_hd_sl, k_rt_l, k_rt_i, k_rt_b, k_rt_s, k_rt_blob, k_st, k_stb, k_stX, k_stE, k_stD, k_stB, k_stG, k_stF, k_stP, k_stQ, k_puris0, k_puris, k_puriC, k_puri_i, k_puri_b, k_puri_l, k_c_agg, k_c_i, k_c_b, k_c_s, k_c_l, k_c_e, k_c_sl, k_c_p, k_sv_agg, k_sv_i, k_sv_b, k_sv_s, k_sv_l, k_sv_e, k_sv_sl, k_sc_i, k_sc_b, k_wd_i, k_wd_b, k_wd_s, k_wd_l, k_wd_e, k_wd_sl, k_wd_p, k_wd_blob, k_al, k_bx, k_new, k_len_l, k_len_e, k_len_sl, k_len_bs, k_lenS, k_cp_e, k_eNs_l, k_eNs_e, k_xS_l, k_xS_sl, k_xSO, k_elQ, k_xA, k_xAq, k_slc_l, k_slc_e, k_slc_sl, k_slL, k_slE, k_slO, k_opt0, k_opt1, k_map0, k_allW0, k_allW1, k_fe0, k_fe1, k_fs0, k_fs1, k_fl_i, k_fl_b, k_fl_l, k_ap, k_cont_l, k_cont_e, k_cont_s, k_cont_sl, k_contL_l, k_contL_e, k_contL_sl, k_contX, k_apC, k_apE_e, k_apE_sl, k_apO, k_apz, k_bldS0, k_bldS, k_bld, k_bldC0, k_bldC, k_eAr, k_b2s, k_b2sC, k_strO, k_ca0, k_ca0X, k_ca0R, k_reiN0, k_reiN1, k_rs1_0, k_rs_0, k_rl_0, k_re_0, k_rs1, k_rs, k_rl, k_re, k_r0_l, k_r0_e, k_r0_i, k_r0_b, k_r0_s, k_r0_blob, k_r0_sl, k_r0_bs, k_r1_agg, k_r1_l, k_r1_e, k_r1_i, k_r1_b, k_r1_s, k_r1_sl, k_r1_bs, k_contL_bs, k_contB, k_r_l, k_r_sl, k_back0, k_back1, k_one1, k_one2, k_handX, k_rowX, k_ca, k_ca_ei, k_fin1, k_fin2, k_res_b, k_res_i, k_res_s, k_res_l, k_res_e, k_res_agg, k_res_sl, k_head, k_head0, k_headF, k_headOK, k_hc0, k_asR_e, k_asR_sl, k_sea_sl, getS, getO, gS, zipN, dropW, takeW, wds, stvs, sea, seaL, refs, refsL, refsEls, refsO, isPureEls, isPures, isPure, noExt, noExts, noExtEls, cellsL, ren, renL, renEls, keepO, keepS, keysO, refsS, refsOB, cntN, headC, setS, boxO, row, putW, putB, putB1, eNl, newOs, frz, renO, noExtO, zps, zp, two32, w64, -getElem?_pos]
open Classical in
/-- A state's sum. -/
noncomputable def endI (ns xs : List Int) (L : Int) : List Int := if h : ns.length = 8 then Classical.choose (E24 ns xs L h) else []
theorem L24 (M d : Nat) (ns xs : List Int) (L : Int) (hn : ns.length = 8) : sem tab (M + 1000) (d + 6) 24 [hashV ns false xs L] [] = some (.agg [.blob 32 (uL (endI ns xs L))], []) := by
  have := (Classical.choose_spec (E24 ns xs L hn)).2 M d
  unfold endI
  rw [dif_pos hn]; exact this
theorem endI_len (ns xs : List Int) (L : Int) (hn : ns.length = 8) : (endI ns xs L).length = 32 := by
  have := (Classical.choose_spec (E24 ns xs L hn)).1
  unfold endI
  rw [dif_pos hn]; exact this
theorem may_zero : mayB ([] : List Int).length 0 = true := by decide
set_option maxHeartbeats 4000000 in
/-- The sum of bytes. -/
theorem L26 (M d : Nat) (ys : List Int) (h : ys.length ≤ 57600) : sem tab (M + 1000) (d + 7) 26 [.l false (byL ys)] [] = some (.agg [.blob 32 (uL (endI (rounds nFirst ys).1 (rounds nFirst ys).2 ys.length))], []) := by
  rw [sem_succ tab (M + 1000) (d + 6) 26 m26 rfl]
  have h21 := L21 (M + 1000) (d + 5)
  have h19 := L19 M d nFirst [] ys 0 rfl may_zero (by omega) (by simpa using h)
  rw [List.nil_append, Int.zero_add] at h19
  have h24 := L24 M d (rounds nFirst ys).1 (rounds nFirst ys).2 ys.length (rounds_len _ nFirst ys (Nat.le_refl _) rfl).1
  have hy := byL_len ys
  have hb : byL [] = [] := rfl
  rw [← hy] at h h19 h24 ⊢
  have n1 : ¬ ((byL ys).length : Int) > 1048576 := by omega
  have n2 : ¬ 1048576 < ((byL ys).length : Int) := by omega
  simp only [hashV_wL, hb] at h21 h19 h24 ⊢
  generalize byL (rounds nFirst ys).2 = q at *
  generalize wL (rounds nFirst ys).1 = r2 at *
  generalize wL nFirst = r at *
  generalize uL (endI _ _ _) = o at *
  generalize byL ys = b at *
  generalize hz : List.replicate 32 (PV.i IntKind.u8 0) = zz at *
  simp -implicitDefEqProofs (maxSteps := 1000000) (disch := first | omega | rfl) [m26, hz, h21, h19, h24, n1, n2, k_g0, k_gs, k_bnd, k_bndO, k_br_t, k_br_f, k_br_u, k_agree, k_loop, k_add, k_sub, k_mul, k_lss, k_leq, k_gtr, k_geq, k_eql, k_neq, k_rem, k_quo, k_and, k_or, k_xor, k_shl, k_shr, k_seql, k_sneq, k_sadd, k_beql, k_bneq, k_not, k_neg, k_com, k_cv, k_pk, k_gd, k_gdt, k_gdO, k_gdOt, k_ext, k_fA, k_l1, k_l1b, k_l1q, k_l1qb, k_lN, k_lNq, k_atO, k_atE, k_aggO, k_takeO, k_blobAt, k_nthB, k_hd_i, k_hd_b, k_hd_s, k_hd_l, k_hd_e, k_hd_sl, k_rt_l, k_rt_i, k_rt_b, k_rt_s, k_rt_blob, k_st, k_stb, k_stX, k_stE, k_stD, k_stB, k_stG, k_stF, k_stP, k_stQ, k_puris0, k_puris, k_puriC, k_puri_i, k_puri_b, k_puri_l, k_c_agg, k_c_i, k_c_b, k_c_s, k_c_l, k_c_e, k_c_sl, k_c_p, k_sv_agg, k_sv_i, k_sv_b, k_sv_s, k_sv_l, k_sv_e, k_sv_sl, k_sc_i, k_sc_b, k_wd_i, k_wd_b, k_wd_s, k_wd_l, k_wd_e, k_wd_sl, k_wd_p, k_wd_blob, k_al, k_bx, k_new, k_len_l, k_len_e, k_len_sl, k_len_bs, k_lenS, k_cp_e, k_eNs_l, k_eNs_e, k_xS_l, k_xS_sl, k_xSO, k_elQ, k_xA, k_xAq, k_slc_l, k_slc_e, k_slc_sl, k_slL, k_slE, k_slO, k_opt0, k_opt1, k_map0, k_allW0, k_allW1, k_fe0, k_fe1, k_fs0, k_fs1, k_fl_i, k_fl_b, k_fl_l, k_ap, k_cont_l, k_cont_e, k_cont_s, k_cont_sl, k_contL_l, k_contL_e, k_contL_sl, k_contX, k_apC, k_apE_e, k_apE_sl, k_apO, k_apz, k_bldS0, k_bldS, k_bld, k_bldC0, k_bldC, k_eAr, k_b2s, k_b2sC, k_strO, k_ca0, k_ca0X, k_ca0R, k_reiN0, k_reiN1, k_rs1_0, k_rs_0, k_rl_0, k_re_0, k_rs1, k_rs, k_rl, k_re, k_r0_l, k_r0_e, k_r0_i, k_r0_b, k_r0_s, k_r0_blob, k_r0_sl, k_r0_bs, k_r1_agg, k_r1_l, k_r1_e, k_r1_i, k_r1_b, k_r1_s, k_r1_sl, k_r1_bs, k_contL_bs, k_contB, k_r_l, k_r_sl, k_back0, k_back1, k_one1, k_one2, k_handX, k_rowX, k_ca, k_ca_ei, k_fin1, k_fin2, k_res_b, k_res_i, k_res_s, k_res_l, k_res_e, k_res_agg, k_res_sl, k_head, k_head0, k_headF, k_headOK, k_hc0, k_asR_e, k_asR_sl, k_sea_sl, getS, getO, gS, zipN, dropW, takeW, wds, stvs, sea, seaL, refs, refsL, refsEls, refsO, isPureEls, isPures, isPure, noExt, noExts, noExtEls, cellsL, ren, renL, renEls, keepO, keepS, keysO, refsS, refsOB, cntN, headC, setS, boxO, row, putW, putB, putB1, eNl, newOs, frz, renO, noExtO, zps, zp, two32, w64, -getElem?_pos]
end Go.Proofs.YtbobbkgdbfcblaaDoor
