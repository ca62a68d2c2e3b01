import Derived.Test.YtnkapponcbgbhaaPgD
set_option linter.all false
set_option linter.unusedSimpArgs false
set_option linter.unusedVariables false
namespace Go.Proofs.Ytnkapponcbgbhaa
open Go
attribute [local congr] bnd_cg bndO_cg br_cg
theorem allW_evb (l : List Evn) : allW 5 (evL l) = true := by
  induction l with
  | nil => rfl
  | cons x r ih => simp only [evL, List.map_cons, evC, allW, wds, wd]; exact ih
set_option maxHeartbeats 32000000 in
theorem breaksP_law (us : List Us) (l : List Evn) (f : Fra) (ho : ∀ e ∈ l, okEv e) (of : okF f) : ∃ out, sem tab 2001 12 7 [.l false (usL us), .l false (evL l), .agg (frC f)] [] = some (.b true, out) := by
  rw [sem_succ tab 2001 11 7 m7 rfl]
  have h9 := awakeP
  have h10 := U27 1001 10 us
  have h11 := W11 1001 10 l
  have h23 := V10 1901 6 f of
  have bl := byL_len (putF f)
  by_cases ff : ((fewU us && fewV l) && plainF f) = true ∧ (f.kind = 2 ∨ f.kind = 4)
  case neg =>
    generalize putF f = pf at *
    obtain ⟨f1, f2, f3, f4, f5, f6, f7, f8, f9⟩ := f
    simp only [frC] at h23 ff ⊢
    generalize plainF ⟨f1, f2, f3, f4, f5, f6, f7, f8, f9⟩ = pl at *
    clear ho of
    generalize fewU us = fa at *
    generalize fewV l = fb at *
    generalize usL us = a at *
    generalize evL l = b at *
    rw [← bl] at h23
    clear bl
    generalize byL pf = pb at *
    generalize uL f9 = q at *
    cases pl
    · rw [cond_false] at h23
      cases fa <;> cases fb <;> simp -implicitDefEqProofs (maxSteps := 1000000) (disch := first | omega | rfl) [m7, h9, h10, h11, h23, box, KS, getS, getO, gS, zipN, dropW, takeW, wds, stvs, sea, seaL, refs, refsL, refsEls, refsO, isPureEls, isPures, isPure, noExt, noExts, noExtEls, cellsL, ren, renL, renEls, keepO, keepS, keysO, refsS, refsOB, headC, setS, boxO, row, putW, putB, putB1, eNl, newOs, frz, renO, noExtO, zps, zp, two32, w64, -getElem?_pos, k_cnt, k_cnt0]
    · rw [cond_true] at h23
      cases fa
      · simp -implicitDefEqProofs (maxSteps := 1000000) (disch := first | omega | rfl) [m7, h9, h10, h11, h23, box, KS, getS, getO, gS, zipN, dropW, takeW, wds, stvs, sea, seaL, refs, refsL, refsEls, refsO, isPureEls, isPures, isPure, noExt, noExts, noExtEls, cellsL, ren, renL, renEls, keepO, keepS, keysO, refsS, refsOB, headC, setS, boxO, row, putW, putB, putB1, eNl, newOs, frz, renO, noExtO, zps, zp, two32, w64, -getElem?_pos, k_cnt, k_cnt0]
      · cases fb
        · simp -implicitDefEqProofs (maxSteps := 1000000) (disch := first | omega | rfl) [m7, h9, h10, h11, h23, box, KS, getS, getO, gS, zipN, dropW, takeW, wds, stvs, sea, seaL, refs, refsL, refsEls, refsO, isPureEls, isPures, isPure, noExt, noExts, noExtEls, cellsL, ren, renL, renEls, keepO, keepS, keysO, refsS, refsOB, headC, setS, boxO, row, putW, putB, putB1, eNl, newOs, frz, renO, noExtO, zps, zp, two32, w64, -getElem?_pos, k_cnt, k_cnt0]
        · have n2 : (f1 != 2) = true := by simp; intro h; exact ff ⟨rfl, .inl h⟩
          have n4 : (f1 != 4) = true := by simp; intro h; exact ff ⟨rfl, .inr h⟩
          simp -implicitDefEqProofs (maxSteps := 1000000) (disch := first | omega | rfl) [m7, h9, h10, h11, h23, n2, n4, box, KS, getS, getO, gS, zipN, dropW, takeW, wds, stvs, sea, seaL, refs, refsL, refsEls, refsO, isPureEls, isPures, isPure, noExt, noExts, noExtEls, cellsL, ren, renL, renEls, keepO, keepS, keysO, refsS, refsOB, headC, setS, boxO, row, putW, putB, putB1, eNl, newOs, frz, renO, noExtO, zps, zp, two32, w64, -getElem?_pos, k_cnt, k_cnt0]
  case pos =>
  obtain ⟨f12, hk⟩ := ff
  rw [Bool.and_eq_true, Bool.and_eq_true] at f12
  obtain ⟨⟨f1, f2⟩, f3⟩ := f12
  rw [f1] at h10
  rw [f2] at h11
  rw [f3, cond_true] at h23
  have pl := (plainF_iff f).1 f3
  have gp := good_put f pl of
  have sp := seem_put f pl of
  have pr := (good_of (b := putF f) (by exact putF_range f of.tagr) gp)
  have fu := fewU_len f1
  obtain ⟨fl, fb⟩ := fewV_spec f2
  have pln : (putF f).length ≤ 10000 := by
    have := good_len (putF_range f of.tagr) gp
    omega
  have hf : ∀ e ∈ l ++ [crE, ⟨0, putF f, 0, false, 0⟩], fewE e := fun e he => by
    rcases List.mem_append.1 he with he | he
    · exact ⟨by have := fb e he; omega, ho e he⟩
    · simp only [List.mem_cons, List.not_mem_nil, or_false] at he
      rcases he with rfl | rfl
      · exact ⟨by simp [crE], fun x hx => by simp [crE] at hx⟩
      · exact ⟨pln, putF_range f of.tagr⟩
  have hR : EvR (evL l ++ [evG true crE, evG true ⟨0, putF f, 0, false, 0⟩]) (l ++ [crE, ⟨0, putF f, 0, false, 0⟩]) := EvR_app (EvR_L l) (EvR_app (EvR_one true crE) (EvR_one true _))
  have h13 := W13 1000 3 us [] 0 0 _ _ hR (by omega) (by simp; omega) hf
  have ek : kindE ⟨0, putF f, 0, false, 0⟩ = f.kind := by simp [kindE, gp, sp]
  have ew : whoL us [] (l ++ [crE, ⟨0, putF f, 0, false, 0⟩]) = whoL us [] l ++ [0, 0] := by
    rw [whoL_app]
    simp only [whoL, whoS_cr, aftM, brk_cr, if_true]
    have : (whoS us [] ⟨0, putF f, 0, false, 0⟩).1 = 0 := by
      unfold whoS
      rw [ek, if_neg (by omega), if_pos hk]
      rfl
    rw [this]
  rw [ew] at h13
  have ei : iL (whoL us [] l ++ [0, 0]) = iL (whoL us [] l) ++ [[PV.i .i64 0], [PV.i .i64 0]] := by simp [iL]
  rw [ei] at h13
  have e2 : (iL (whoL us [] l)).length = l.length := by rw [iL_len, whoL_len]
  have el := evL_len l
  have aw := allW_evb l
  have tl : (l ++ [crE, ⟨0, putF f, 0, false, 0⟩]).length = l.length + 2 := by simp
  rw [tl] at h13
  have g0 : (iL (whoL us [] l) ++ [[PV.i .i64 0], [PV.i .i64 0]])[l.length]? = some [PV.i .i64 0] := by
    rw [List.getElem?_append_right (by omega), e2]; simp
  have g1 : (iL (whoL us [] l) ++ [[PV.i .i64 0], [PV.i .i64 0]])[l.length + 1]? = some [PV.i .i64 0] := by
    rw [List.getElem?_append_right (by omega), e2]; simp
  have w1 : IntKind.i64.wrap ((l.length + 2 : Nat) - 1 : Int) = ((l.length + 1 : Nat) : Int) := by rw [w64 (by omega) (by omega)]; omega
  have w0 : IntKind.i64.wrap ((l.length + 2 : Nat) - 2 : Int) = (l.length : Int) := by rw [w64 (by omega) (by omega)]; omega
  have tn1 : Int.toNat ((l.length + 1 : Nat) : Int) = l.length + 1 := rfl
  have tn0 : Int.toNat (l.length : Int) = l.length := rfl
  have tb : List.take (putF f).length (byL (putF f)) = byL (putF f) := by rw [← bl]; exact List.take_length
  have p0 : l.length ≤ 4294967296 := by omega
  have p1 : l.length + 2 ≤ 4294967296 := by omega
  have p2 : ¬ (l.length + 2 ≤ l.length) := by omega
  have t2 : List.take l.length (evL l) = evL l := by rw [← el]; exact List.take_length
  have ll : (iL (whoL us [] l) ++ [[PV.i .i64 0], [PV.i .i64 0]]).length = l.length + 2 := by simp [e2]
  have lt : List.take (l.length + 2) (iL (whoL us [] l) ++ [[PV.i .i64 0], [PV.i .i64 0]]) = iL (whoL us [] l) ++ [[PV.i .i64 0], [PV.i .i64 0]] := List.take_of_length_le (by omega)
  have t3 : List.take (l.length + 2) (evL l ++ [evG true crE, evG true ⟨0, putF f, 0, false, 0⟩]) = evL l ++ [evG true crE, evG true ⟨0, putF f, 0, false, 0⟩] := List.take_of_length_le (by simp [el])
  generalize hfl : flatEls (evL l) = fle
  clear hR hf ho pl gp sp pr fu fl fb pln ek ew ei tl of f1 f2 f3
  simp only [evG, crE, show byL [] = [] from rfl] at h13 t3
  rw [← bl] at h23 tb
  clear bl
  generalize byL (putF f) = pb at *
  obtain ⟨f1, f2, f3, f4, f5, f6, f7, f8, f9⟩ := f
  simp only [frC] at h23 hk ⊢
  generalize iL (whoL us [] l) ++ [[PV.i .i64 0], [PV.i .i64 0]] = w at *
  generalize usL us = a at *
  generalize evL l = b at *
  generalize uL f9 = q at *
  generalize l.length = n at *
  have q1 : (1 : Int) ≤ (n : Int) + 2 := by omega
  have q2 : (n : Int) + 2 - 1 < (n : Int) + 2 := by omega
  have q3 : (n : Int) + 2 - 2 < (n : Int) + 2 := by omega
  have q4 : (2 : Int) ≤ (n : Int) + 2 := by omega
  have q5 : (n : Int) < (n : Int) + 2 := by omega
  have u1 : ((n : Int) + 2).toNat - 1 = n + 1 := by omega
  have u2 : ((n : Int) + 2).toNat - 2 = n := by omega
  rcases hk with rfl | rfl
  · simp -implicitDefEqProofs (maxSteps := 1000000) (disch := first | omega | rfl) [m7, h9, h10, h11, h13, h23, el, aw, g0, g1, w1, w0, tn1, tn0, tb, p0, p1, p2, t2, t3, ll, lt, hfl, q1, q2, q3, q4, q5, u1, u2, KQ, mpo, box, KS, getS, getO, gS, zipN, dropW, takeW, wds, stvs, sea, seaL, refs, refsL, refsEls, refsO, isPureEls, isPures, isPure, noExt, noExts, noExtEls, cellsL, ren, renL, renEls, keepO, keepS, keysO, refsS, refsOB, headC, setS, boxO, row, putW, putB, putB1, eNl, newOs, frz, renO, noExtO, zps, zp, two32, w64, -getElem?_pos, k_cnt, k_cnt0]
  · simp -implicitDefEqProofs (maxSteps := 1000000) (disch := first | omega | rfl) [m7, h9, h10, h11, h13, h23, el, aw, g0, g1, w1, w0, tn1, tn0, tb, p0, p1, p2, t2, t3, ll, lt, hfl, q1, q2, q3, q4, q5, u1, u2, KQ, mpo, box, KS, getS, getO, gS, zipN, dropW, takeW, wds, stvs, sea, seaL, refs, refsL, refsEls, refsO, isPureEls, isPures, isPure, noExt, noExts, noExtEls, cellsL, ren, renL, renEls, keepO, keepS, keysO, refsS, refsOB, headC, setS, boxO, row, putW, putB, putB1, eNl, newOs, frz, renO, noExtO, zps, zp, two32, w64, -getElem?_pos, k_cnt, k_cnt0]
theorem Pure.PartBreaks (us : List PV) (h : TyAll Try.prog 8 [22, 23, 41] us) : ∃ N d out, sem tab N d 7 us [] = some (.b true, out) := by
  simp only [TyAll] at h
  obtain ⟨v0, _, rfl, h0, v1, _, rfl, h1, v2, _, rfl, h2, rfl⟩ := h
  obtain ⟨u, hu, rfl⟩ := users_of h0
  obtain ⟨l, hl, rfl⟩ := evs_of h1
  obtain ⟨f, hf, rfl⟩ := frame_of h2
  obtain ⟨out, h⟩ := breaksP_law u l f hl hf
  exact ⟨_, _, out, h⟩
end Go.Proofs.Ytnkapponcbgbhaa
