import Derived.Test.YtnkapponcbgbhaaPgD
set_option linter.all false
set_option linter.unusedSimpArgs false
set_option linter.unusedVariables false
namespace Go.Proofs.Ytnkapponcbgbhaa
open Go
attribute [local congr] bnd_cg bndO_cg br_cg
theorem strip_mem (us : List Us) : ∀ (l : List Evn) (m : Mp) (e : Evn), e ∈ stripL us m l → e ∈ l ∨ e = crE
  | [], _, _, h => by simp [stripL] at h
  | x :: r, m, e, h => by
    simp only [stripL, List.mem_append] at h
    rcases h with h | h
    · split at h
      · split at h
        · simp at h; exact .inr h
        · cases h
      · simp at h; exact .inl (by simp [h])
    · rcases strip_mem us r _ e h with h | h
      · exact .inl (List.mem_cons_of_mem _ h)
      · exact .inr h
def bxD (us : List Us) : Obj' := { els := [[.l false (usL us), .e true, .i .i64 0, .i .i64 0]], w := 4, pu := false, g := true, cap := none, ver := 0, fro := false }
def slp6 (us : List Us) (xs : List (List PV)) (n s t i : Nat) : SL := [(0, .l false (usL us)), (1, .l false xs), (8, .p 128 0 0 0 none), (9, .sl 143 0 0 n), (10, .sl 151 0 0 s), (12, .sl 167 0 0 t), (13, .i .i64 i)]
def obp6 (us : List Us) (w s t : List (List PV)) (gk : Bool) : OB := [(167, row t 5 gk), (151, row s 5 true), (143, row w 1 true), (128, bxD us)]
set_option maxHeartbeats 16000000 in
theorem stepp6 (g : SL → OB → Option R) (us : List Us) (xs ws s t : List (List PV)) (n i : Nat) (w : Int) (e : Evn) (gk : Bool) (hx : xs[i]? = some (evC e)) (hw : ws[i]? = some [.i .i64 w]) (hi : i < n) (hxl : xs.length = n) (hwl : ws.length = n) (hn : n ≤ 900) (hu : us.length < 1000) (ht : t.length ≤ 100000) (hsl : s.length ≤ 900) :
    ∃ (gk' : Bool) (T : List (List PV)), EvR T (keepW us w e) ∧ m6b1 (sem tab 2001 11) 2001 [] g (slp6 us xs n s.length t.length i) (obp6 us ws s t gk) =
      g (slp6 us xs n s.length (t ++ T).length (i + 1)) (obp6 us ws s (t ++ T) gk') := by
  have h22 := U36u 1000 7 us w hu
  have w2 := w64n (i := i) (by omega)
  have ci : (i : Int) < (xs.length : Int) := by omega
  have cn : (i : Int) < (n : Int) := by omega
  have ci2 : i < n := hi
  have ci3 : i < xs.length := by omega
  have t2 : List.take t.length t = t := List.take_length
  have s2 : List.take s.length s = s := List.take_length
  have tw : List.take n ws = ws := by rw [← hwl]; exact List.take_length
  have e0 : t.length + 1 ≤ 4294967296 := by omega
  have e1 : ¬ (t.length + 1 ≤ t.length) := by omega
  have nn : ∀ q : Bool, (!!q) = q := fun q => by cases q <;> rfl
  unfold keepW vieU
  simp only [slp6, obp6, bxD]
  generalize hro : roleU us w = ro at *
  generalize hv : (ro == 0) = v
  have hbr : brkE e = ((e.k == 2) || ((e.k == 0) && e.boom)) := rfl
  rw [hbr]
  clear hbr
  cases v
  · rw [if_neg (by simp)]
    refine ⟨false, [evG false e], EvR_one false e, ?_⟩
    obtain ⟨k, raw, dr, bo, ke⟩ := e
    have e4 : List.take (t.length + 1) (t ++ [[PV.i .i64 k, PV.l false (byL raw), PV.i .u64 dr, PV.b bo, PV.i .i64 ke]]) = t ++ [[PV.i .i64 k, PV.l false (byL raw), PV.i .u64 dr, PV.b bo, PV.i .i64 ke]] := List.take_of_length_le (by simp)
    simp only [evC] at hx
    simp only [evG, List.length_append, List.length_singleton]
    generalize byL raw = b at *
    generalize usL us = a at *
    generalize h1 : (k == 2) = q1
    generalize h2 : (k == 0) = q2
    cases q1
    · cases q2 <;> simp -implicitDefEqProofs (maxSteps := 1000000) (disch := first | omega | rfl) [m6b1, hx, hw, h22, hv, h1, h2, w2, cn, t2, s2, hwl, hxl, e0, e1, KQ, mpo, flatEls, flats, flat, KS, getS, getO, gS, dropW, takeW, wds, stvs, refs, refsL, refsEls, refsO, isPureEls, isPures, isPure, noExt, noExts, noExtEls, cellsL, ren, keepO, keepS, keysO, refsS, refsOB, headC, setS, row, putW, putB, two32, -getElem?_pos, k_cnt, k_cnt0]
    · simp -implicitDefEqProofs (maxSteps := 1000000) (disch := first | omega | rfl) [m6b1, hx, hw, h22, hv, h1, w2, cn, t2, s2, hwl, hxl, e0, e1, KQ, mpo, flatEls, flats, flat, KS, getS, getO, gS, dropW, takeW, wds, stvs, refs, refsL, refsEls, refsO, isPureEls, isPures, isPure, noExt, noExts, noExtEls, cellsL, ren, keepO, keepS, keysO, refsS, refsOB, headC, setS, row, putW, putB, two32, -getElem?_pos, k_cnt, k_cnt0]
  · rw [if_pos rfl]
    generalize hb : ((e.k == 2) || ((e.k == 0) && e.boom)) = bb
    obtain ⟨k, raw, dr, bo, ke⟩ := e
    simp only [evC] at hx hb
    have e4 : List.take (t.length + 1) (t ++ [[PV.i .i64 2, PV.l true [], PV.i .u64 0, PV.b false, PV.i .i64 0]]) = t ++ [[PV.i .i64 2, PV.l true [], PV.i .u64 0, PV.b false, PV.i .i64 0]] := List.take_of_length_le (by simp)
    cases bb
    · rw [if_neg (by simp)]
      refine ⟨gk, [], EvR_nil, ?_⟩
      rw [List.append_nil]
      generalize byL raw = b at *
      generalize usL us = a at *
      generalize h1 : (k == 2) = q1 at *
      generalize h2 : (k == 0) = q2 at *
      cases q1
      · cases q2
        · simp -implicitDefEqProofs (maxSteps := 1000000) (disch := first | omega | rfl) [m6b1, hx, hw, h22, hv, h1, h2, w2, cn, t2, s2, hwl, hxl, KS, getS, getO, gS, dropW, takeW, wds, refs, refsL, refsEls, refsO, noExt, ren, keepO, keepS, keysO, refsS, refsOB, headC, setS, row, putW, putB, -getElem?_pos, k_cnt, k_cnt0]
        · cases bo
          · simp -implicitDefEqProofs (maxSteps := 1000000) (disch := first | omega | rfl) [m6b1, hx, hw, h22, hv, h1, h2, w2, cn, t2, s2, hwl, hxl, KS, getS, getO, gS, dropW, takeW, wds, refs, refsL, refsEls, refsO, noExt, ren, keepO, keepS, keysO, refsS, refsOB, headC, setS, row, putW, putB, -getElem?_pos, k_cnt, k_cnt0]
          · cases hb
      · cases hb
    · rw [if_pos rfl]
      refine ⟨gk, [evG true crE], EvR_one true crE, ?_⟩
      simp only [evG, crE, show byL [] = [] from rfl, List.length_append, List.length_singleton]
      generalize byL raw = b at *
      generalize usL us = a at *
      generalize h1 : (k == 2) = q1 at *
      generalize h2 : (k == 0) = q2 at *
      cases q1
      · cases q2
        · cases hb
        · cases bo
          · cases hb
          · simp -implicitDefEqProofs (maxSteps := 1000000) (disch := first | omega | rfl) [m6b1, hx, hw, h22, hv, h1, h2, w2, cn, t2, s2, hwl, hxl, e0, e1, KQ, mpo, KS, getS, getO, gS, dropW, takeW, wds, stvs, refs, refsL, refsEls, refsO, isPureEls, isPures, isPure, noExt, noExts, noExtEls, cellsL, ren, keepO, keepS, keysO, refsS, refsOB, headC, setS, row, putW, putB, two32, -getElem?_pos, k_cnt, k_cnt0]
      · simp -implicitDefEqProofs (maxSteps := 1000000) (disch := first | omega | rfl) [m6b1, hx, hw, h22, hv, h1, w2, cn, t2, s2, hwl, hxl, e0, e1, KQ, mpo, KS, getS, getO, gS, dropW, takeW, wds, stvs, refs, refsL, refsEls, refsO, isPureEls, isPures, isPure, noExt, noExts, noExtEls, cellsL, ren, keepO, keepS, keysO, refsS, refsOB, headC, setS, row, putW, putB, two32, -getElem?_pos, k_cnt, k_cnt0]
def slp6i (us : List Us) (n i : Nat) : SL := [(0, .l false (usL us)), (16, .b true), (17, .sl 207 0 0 n), (18, .i .i64 i)]
set_option maxHeartbeats 8000000 in
theorem stepp6i (g : SL → OB → Option R) (us : List Us) (ws : List (List PV)) (i : Nat) (w : Int) (hw : ws[i]? = some [.i .i64 w]) (hi : i < ws.length) (hn : ws.length ≤ 900) (hu : us.length < 1000) (hv : vieU us w = false) :
    m6b0 (sem tab 2001 11) 2001 [] g (slp6i us ws.length i) [(207, row ws 1 true)] = g (slp6i us ws.length (i + 1)) [(207, row ws 1 true)] := by
  have h22 := U36u 1000 7 us w hu
  have w2 := w64n (i := i) (by omega)
  have ci : (i : Int) < (ws.length : Int) := by omega
  have t2 : List.take ws.length ws = ws := List.take_length
  unfold vieU at hv
  simp only [slp6i]
  generalize roleU us w = ro at *
  generalize usL us = a at *
  simp -implicitDefEqProofs (maxSteps := 1000000) (disch := first | omega | rfl) [m6b0, hw, h22, hv, w2, ci, KS, getS, getO, gS, dropW, refs, refsL, noExt, ren, keepO, keepS, keysO, refsS, refsOB, headC, setS, row, -getElem?_pos, k_cnt, k_cnt0]
theorem endp6i (N d : Nat) (g : SL → OB → Option R) (us : List Us) (ws : List (List PV)) :
    m6b0 (sem tab N d) N [] g (slp6i us ws.length ws.length) [(207, row ws 1 true)] = some (.b true, []) := by
  simp only [slp6i]
  simp -implicitDefEqProofs (maxSteps := 1000000) (disch := first | omega | rfl) [m6b0, KS, getS, getO, gS, refs, row, -getElem?_pos]
theorem loopp6i (us : List Us) (x : List Int) (hn : x.length ≤ 900) (hu : us.length < 1000) (hv : ∀ w ∈ x, vieU us w = false) : ∀ (k i e : Nat), i + k = x.length →
    loopC (m6b0 (sem tab 2001 11) 2001 []) (e + 1 + k) (slp6i us x.length i) [(207, row (iL x) 1 true)] = some (.b true, []) := by
  intro k
  induction k with
  | zero =>
    intro i e h
    have : i = (iL x).length := by rw [iL_len]; omega
    rw [Nat.add_zero, k_loop, this, show x.length = (iL x).length from (iL_len x).symm, endp6i]
  | succ k ih =>
    intro i e h
    have hi : i < x.length := by omega
    have hs := stepp6i (loopC (m6b0 (sem tab 2001 11) 2001 []) (e + 1 + k)) us (iL x) i x[i] (iL_get x i hi) (by rw [iL_len]; exact hi) (by rw [iL_len]; exact hn) hu (hv _ (List.getElem_mem hi))
    rw [iL_len] at hs
    rw [show e + 1 + (k + 1) = (e + 1 + k) + 1 by omega, k_loop, hs, ih (i + 1) e (by omega)]
set_option maxHeartbeats 16000000 in
theorem endp6 (g : SL → OB → Option R) (us : List Us) (l S : List Evn) (ws t : List (List PV)) (n : Nat) (gk : Bool) (hxl : (evL l).length = n) (hS : S.length ≤ 900) (hu : us.length < 1000) (ho : ∀ e ∈ S, fewE e) (hT : EvR t S) (hv : ∀ w ∈ whoL us [] S, vieU us w = false) :
    m6b1 (sem tab 2001 11) 2001 [] g (slp6 us (evL l) n (evT S).length t.length n) (obp6 us ws (evT S) t gk) = some (.b true, []) := by
  have h15 := W15 1001 10 (evT S) t S (evT_R S) hT hS
  have h13 := W13 1000 3 us [] 0 0 (evT S) S (evT_R S) hu (by omega) ho
  have hL := loopp6i us (whoL us [] S) (by rw [whoL_len]; exact hS) hu hv (whoL us [] S).length 0 (2000 - S.length) (by omega)
  rw [whoL_len, show 2000 - S.length + 1 + S.length = 2001 by omega] at hL
  have e2 : (iL (whoL us [] S)).length = S.length := by rw [iL_len, whoL_len]
  have tw : List.take S.length (iL (whoL us [] S)) = iL (whoL us [] S) := by rw [← e2]; exact List.take_length
  have s2 : List.take (evT S).length (evT S) = evT S := List.take_length
  have t2 : List.take t.length t = t := List.take_length
  have ci : ¬ ((n : Int) < ((evL l).length : Int)) := by omega
  have ci2 : ¬ ((evL l).length : Nat) > n := by omega
  simp only [slp6i, row, show ((0 : Nat) : Int) = 0 from rfl] at hL
  simp only [slp6, obp6, bxD]
  clear hT ho hv
  generalize iL (whoL us [] S) = x at *
  generalize evT S = s at *
  generalize usL us = a at *
  generalize evL l = b at *
  generalize S.length = m at *
  generalize hM : 2001 = M at *
  have h13' : sem tab M 11 13 [.agg [.l false a, .l false [], .i .i64 0, .i .i64 0], .l false s] [] = some (.sl 0 0 0 m, [row x 1 true]) := by rw [← hM]; exact h13
  have h15' : sem tab M 11 15 [.l false s, .l false t] [] = some (.b true, []) := by rw [← hM]; exact h15
  simp -implicitDefEqProofs (maxSteps := 1000000) (disch := first | omega | rfl) [m6b1, h15', h13', hL, hxl, e2, s2, t2, KS, getS, getO, gS, dropW, takeW, wds, refs, refsL, noExt, ren, keepO, keepS, keysO, refsS, refsOB, headC, setS, row, putW, putB, newOs, renO, noExtO, -getElem?_pos, k_cnt, k_cnt0]
theorem loopp6 (us : List Us) (l S : List Evn) (gl : l.length ≤ 900) (hS : S.length ≤ 900) (hu : us.length < 1000) (ho : ∀ e ∈ S, fewE e) (hv : ∀ w ∈ whoL us [] S, vieU us w = false) : ∀ (k i e : Nat) (t : List (List PV)) (gk : Bool) (K : List Evn), i + k = l.length → t.length ≤ i → EvR t K → K ++ stripW us ((whoL us [] l).drop i) (l.drop i) = S →
    loopC (m6b1 (sem tab 2001 11) 2001 []) (e + 1 + k) (slp6 us (evL l) l.length (evT S).length t.length i) (obp6 us (iL (whoL us [] l)) (evT S) t gk) = some (.b true, []) := by
  intro k
  induction k with
  | zero =>
    intro i e t gk K h ht hK hS2
    have : i = l.length := by omega
    subst this
    rw [List.drop_length, show (whoL us [] l).drop l.length = [] by rw [← whoL_len us l []]; exact List.drop_length] at hS2
    simp only [stripW, List.append_nil] at hS2
    subst hS2
    rw [Nat.add_zero, k_loop, endp6 _ us l K _ t l.length gk (evL_len l) hS hu ho hK hv]
  | succ k ih =>
    intro i e t gk K h ht hK hS2
    have hi : i < l.length := by omega
    have hj : i < (whoL us [] l).length := by rw [whoL_len]; exact hi
    obtain ⟨g1, T1, r1, s1⟩ := stepp6 (loopC (m6b1 (sem tab 2001 11) 2001 []) (e + 1 + k)) us (evL l) (iL (whoL us [] l)) (evT S) t l.length i (whoL us [] l)[i] l[i] gk (evL_get l i hi) (iL_get _ i hj) hi (evL_len l) (by rw [iL_len, whoL_len]) gl hu (by omega) (by rw [evT_len]; exact hS)
    have hT : T1.length ≤ 1 := by rw [r1.1]; exact keepW_len _ _ _
    rw [show e + 1 + (k + 1) = (e + 1 + k) + 1 by omega, k_loop, s1]
    refine ih (i + 1) e (t ++ T1) g1 (K ++ keepW us (whoL us [] l)[i] l[i]) (by omega) (by rw [List.length_append]; omega) (EvR_app hK r1) ?_
    have da : l.drop i = l[i] :: l.drop (i + 1) := List.drop_eq_getElem_cons hi
    have dw : (whoL us [] l).drop i = (whoL us [] l)[i] :: (whoL us [] l).drop (i + 1) := List.drop_eq_getElem_cons hj
    rw [da, dw] at hS2
    rw [List.append_assoc]
    exact hS2
set_option maxHeartbeats 16000000 in
theorem stripP_law (us : List Us) (l : List Evn) (ho : ∀ e ∈ l, okEv e) : ∃ out, sem tab 2001 12 6 [.l false (usL us), .l false (evL l)] [] = some (.b true, out) := by
  rw [sem_succ tab 2001 11 6 m6 rfl]
  have h9 := awakeP
  have h10 : sem tab 2001 11 10 [.l false (usL us)] [] = some (.b (fewU us), []) := U27 1001 10 us
  have h11 : sem tab 2001 11 11 [.l false (evL l), .i .i64 40] [] = some (.b (fewV l), []) := W11 1001 10 l
  cases f1 : fewU us
  · rw [f1] at h10
    generalize fewV l = f2 at *
    generalize usL us = a at *
    generalize evL l = b at *
    simp -implicitDefEqProofs (maxSteps := 1000000) (disch := first | omega | rfl) [m6, h9, h10, h11, KS, getS, getO, gS, zipN, dropW, takeW, wds, refs, refsL, noExt, ren, boxO, putW, putB, -getElem?_pos]
  cases f2 : fewV l
  · rw [f1] at h10
    rw [f2] at h11
    generalize usL us = a at *
    generalize evL l = b at *
    simp -implicitDefEqProofs (maxSteps := 1000000) (disch := first | omega | rfl) [m6, h9, h10, h11, KS, getS, getO, gS, zipN, dropW, takeW, wds, refs, refsL, noExt, ren, boxO, putW, putB, -getElem?_pos]
  rw [f1] at h10
  rw [f2] at h11
  have fu := fewU_len f1
  obtain ⟨fl, fb⟩ := fewV_spec f2
  have hf : ∀ e ∈ l, fewE e := fun e he => ⟨by have := fb e he; omega, ho e he⟩
  have sk := strip_keep us l [] [] (near_nil us)
  have sm : ∀ e ∈ stripL us [] l, fewE e := fun e he => by
    rcases strip_mem us l [] e he with h | rfl
    · exact hf e h
    · exact ⟨by simp [crE], fun x hx => by simp [crE] at hx⟩
  have ll : (stripL us [] l).length ≤ 900 := by rw [stripL_W]; have := stripW_len us (whoL us [] l) l; omega
  have hL := loopp6 us l (stripL us [] l) (by omega) ll (by omega) sm sk.2 l.length 0 (2000 - l.length) [] true [] (by omega) (by simp) EvR_nil (by rw [List.drop_zero, List.drop_zero, ← stripL_W, List.nil_append])
  rw [show 2000 - l.length + 1 + l.length = 2001 by omega] at hL
  have h13 : sem tab 2001 11 13 [.agg [.l false (usL us), .l false [], .i .i64 0, .i .i64 0], .l false (evL l)] [] = _ := W13 1000 3 us [] 0 0 (evL l) l (EvR_L l) (by omega) (by omega) hf
  have h16 : sem tab 2001 11 16 [.agg [.l false (usL us), .l false [], .i .i64 0, .i .i64 0], .l false (evL l)] [] = _ := W16 1000 2 us [] 0 0 (evL l) l (EvR_L l) (by omega) (by omega) hf
  have h16' : sem tab 2001 11 16 [.agg [.l false (usL us), .l false [], .i .i64 0, .i .i64 0], .l false (evT (stripL us [] l))] [] = _ := W16 1000 2 us [] 0 0 (evT (stripL us [] l)) (stripL us [] l) (evT_R _) (by omega) ll sm
  rw [sk.1] at h16'
  have h15 : sem tab 2001 11 15 [.l false (evT (stripL us [] l)), .l false (evT (stripL us [] l))] [] = _ := W15 1001 10 (evT (stripL us [] l)) (evT (stripL us [] l)) (stripL us [] l) (evT_R _) (evT_R _) ll
  have e2 : (iL (whoL us [] l)).length = l.length := by rw [iL_len, whoL_len]
  have tw : List.take l.length (iL (whoL us [] l)) = iL (whoL us [] l) := by rw [← e2]; exact List.take_length
  have tE : List.take (evT (stripL us [] l)).length (evT (stripL us [] l)) = evT (stripL us [] l) := List.take_length
  have el := evL_len l
  clear sk sm hf fb fl fu ho f1 f2 ll
  simp only [slp6, obp6, bxD, row, List.length_nil, show ((0 : Nat) : Int) = 0 from rfl] at hL
  generalize evT (stripL us [] l) = S at *
  generalize iL (whoL us [] l) = w at *
  generalize l.length = n at *
  generalize usL us = a at *
  generalize evL l = b at *
  generalize 2001 = M at *
  simp -implicitDefEqProofs (maxSteps := 1000000) (disch := first | omega | rfl) [m6, h9, h10, h11, h13, h15, h16, h16', hL, e2, tE, el, KS, getS, getO, gS, zipN, dropW, takeW, wds, refs, refsL, refsEls, refsO, noExt, ren, keepO, keepS, keysO, refsS, refsOB, headC, setS, boxO, row, putW, putB, newOs, renO, noExtO, -getElem?_pos, k_cnt, k_cnt0]
theorem Pure.PartStrip (us : List PV) (h : TyAll Try.prog 8 [22, 23] us) : ∃ N d out, sem tab N d 6 us [] = some (.b true, out) := by
  simp only [TyAll] at h
  obtain ⟨v0, _, rfl, h0, v1, _, rfl, h1, rfl⟩ := h
  obtain ⟨u, hu, rfl⟩ := users_of h0
  obtain ⟨l, hl, rfl⟩ := evs_of h1
  obtain ⟨out, h⟩ := stripP_law u l hl
  exact ⟨_, _, out, h⟩
end Go.Proofs.Ytnkapponcbgbhaa
