import Derived.Test.YtmhpkdcnhgmblaaDoorPgB
set_option linter.all false
set_option linter.unusedSimpArgs false
set_option linter.unusedVariables false
namespace Go.Proofs.YtmhpkdcnhgmblaaDoor
open Go
section
def loR (l : Lo) (e : Int) : Option R := some (.tup [.agg (loC true l), .i .i64 e], [])
def zeLo : Lo := ((0, [], 0), [], zero32L)
noncomputable def openL (s : So) : Lo := ((s.1, s.2.1.take (62 * (rdL s.2.1).length), ((62 * (rdL s.2.1).length : Nat) : Int)), rdL s.2.1, rdH s.2.1)
theorem rdL_le (bs : List Int) (hr : byR bs) : 62 * (rdL bs).length ≤ bs.length := by
  have := (rd_spec 264 h0 bs hr).2.2.2.1
  rw [show goodS (stepsL 264 h0 bs) = rdS bs from rfl] at this
  rw [rdL, List.length_map]; exact this
set_option maxHeartbeats 8000000 in
theorem V13o (M d : Nat) (s : So) (h : s.2.1.length ≤ 50000) (hr : byR s.2.1) : sem tab (M + 1000) (d + 11) 13 [.agg (soC false s)] [] = cond (mayS s) (loR (openL s) 0) (loR zeLo 1) := by
  rw [sem_succ tab (M + 1000) (d + 10) 13 m13 rfl]
  have h27 := V27s (M + 1000) (d + 9) s
  have hz := hz32
  unfold loR
  cases hm : mayS s
  · rw [hm] at h27
    obtain ⟨c, D, u⟩ := s
    simp only [soC, loC, zeLo, show byL [] = [] from rfl, show enL [] = [] from rfl, ← hz] at h27 ⊢
    clear hz
    have hzl : (List.replicate 32 (PV.i IntKind.u8 0)).length = 32 := rfl
    generalize byL D = b at *
    generalize hz' : List.replicate 32 (PV.i .u8 0) = zz at *
    simp -implicitDefEqProofs (maxSteps := 1000000) (disch := first | omega | rfl) [m13, h27, hz', KS, getS, getO, gS, zipN, dropW, takeW, wds, sea, seaL, refs, refsL, noExt, ren, boxO, putW, putB, putB1, -getElem?_pos]
  · rw [hm] at h27
    have h31 := V31 M d s.2.1 (by omega) hr
    have rl := rdL_le s.2.1 hr
    have h40 := V40c (M + 1000) (d + 6) s ((62 * (rdL s.2.1).length : Nat) : Int) h
    rw [outC, hm, decide_eq_true (by omega), cond_true, cond_true, Int.toNat_natCast] at h40
    have hdl : (rdH s.2.1).length = 32 := by
      have := (rd_spec 264 h0 s.2.1 hr).2.2.1
      rw [show rdH s.2.1 = _ from this.symm]
      exact hdL_len _ _ h0_len
    have ul := uL_len (rdH s.2.1)
    rw [hdl] at ul
    have el := enL_len (rdL s.2.1)
    have te : List.take (rdL s.2.1).length (enL (rdL s.2.1)) = enL (rdL s.2.1) := List.take_of_length_le (by omega)
    simp only [openL, stR, outR] at h31 h40 ⊢
    obtain ⟨c, D, u⟩ := s
    simp only [soC, loC] at h27 h31 h40 ul el te ⊢
    clear hz
    have hzl : (List.replicate 32 (PV.i IntKind.u8 0)).length = 32 := rfl
    generalize byL (List.take (62 * (rdL D).length) D) = b' at *
    generalize byL D = b at *
    generalize enL (rdL D) = a at *
    generalize uL (rdH D) = q at *
    generalize 62 * (rdL D).length = n at *
    generalize hz' : List.replicate 32 (PV.i .u8 0) = zz at *
    simp only [row] at h31
    simp -implicitDefEqProofs (maxSteps := 1000000) (disch := first | omega | rfl) [m13, h27, h31, h40, el, te, hz', KS, getS, getO, gS, zipN, dropW, takeW, wds, sea, seaL, refs, refsL, noExt, noExts, ren, renL, boxO, putW, putB, putB1, newOs, renO, noExtO, -getElem?_pos]
set_option maxHeartbeats 4000000 in
theorem V15n (M d : Nat) (r : Int) : sem tab (M + 1000) (d + 9) 15 [.i .i64 r] [] = cond (mayS (r, [], 0)) (some (.tup [.agg (loC true ((r, [], 0), [], h0)), .b true], [])) (some (.tup [.agg (loC true zeLo), .b false], [])) := by
  rw [sem_succ tab (M + 1000) (d + 8) 15 m15 rfl]
  have h44 := V44n (M + 1000) (d + 6) r
  have h45 := V45 M d
  rw [show sumI' [0] = h0 from rfl] at h45
  have ul := uL_len h0
  rw [h0_len] at ul
  have hz := hz32
  have hzl : (List.replicate 32 (PV.i IntKind.u8 0)).length = 32 := rfl
  simp only [soC, loC, zeLo, show byL [] = [] from rfl, show enL [] = [] from rfl, ← hz] at h44 ⊢
  clear hz
  generalize uL h0 = q at *
  generalize hz' : List.replicate 32 (PV.i .u8 0) = zz at *
  cases hm : mayS (r, [], 0) <;> rw [hm] at h44 <;> simp -implicitDefEqProofs (maxSteps := 1000000) (disch := first | omega | rfl) [m15, h44, h45, hz', KS, getS, getO, gS, zipN, dropW, takeW, wds, sea, seaL, refs, refsL, noExt, noExts, ren, renL, boxO, putW, putB, putB1, -getElem?_pos]
noncomputable def roomL (l : Lo) : Int := cond (mayG l) (waitN l) 0
set_option maxHeartbeats 4000000 in
theorem V24r (M d : Nat) (l : Lo) (hc : okC64 l.1.1) (hl : l.2.1.length ≤ 264) (ho : ∀ e ∈ l.2.1, okE e) (hh : l.2.2.length = 32) : sem tab (M + 1000) (d + 11) 24 [.agg (loC false l)] [] = some (.i .i64 (roomL l), []) := by
  rw [sem_succ tab (M + 1000) (d + 10) 24 m24 rfl]
  have h22 := V22g M d l hl ho hh
  have h31 := V31r (M + 1000) (d + 8) false l hc (by omega)
  have hzl : (List.replicate 32 (PV.i IntKind.u8 0)).length = 32 := rfl
  unfold roomL
  generalize decide ((l.2.1.length : Int) < slots l.1.1) = x at *
  generalize waitN l = n at *
  cases hm : mayG l
  · rw [hm] at h22
    obtain ⟨⟨c, D, u⟩, L, H⟩ := l
    simp only [loC] at h22 ⊢
    generalize byL D = b at *
    generalize enL L = a at *
    generalize uL H = q at *
    generalize hz' : List.replicate 32 (PV.i .u8 0) = zz at *
    simp -implicitDefEqProofs (maxSteps := 1000000) (disch := first | omega | rfl) [m24, h22, hz', KS, getS, getO, gS, zipN, dropW, takeW, wds, refs, refsL, noExt, ren, boxO, putW, putB, putB1, -getElem?_pos]
  · rw [hm] at h22
    have ul := uL_len l.2.2
    rw [hh] at ul
    have hca := k_ca31 (sem tab (M + 1000) (d + 10)) [(152, lbox false l), (72, lbox false l)] 160 31 152 false l x n rfl h31
    obtain ⟨⟨c, D, u⟩, L, H⟩ := l
    simp only [lbox, loC, box] at h22 hca ul ⊢
    generalize byL D = b at *
    generalize enL L = a at *
    generalize uL H = q at *
    generalize hz' : List.replicate 32 (PV.i .u8 0) = zz at *
    simp -implicitDefEqProofs (maxSteps := 1000000) (disch := first | omega | rfl) [m24, h22, hca, hz', KS, getS, getO, gS, zipN, dropW, takeW, wds, refs, refsL, noExt, ren, boxO, putW, putB, putB1, -getElem?_pos]
end
section
theorem k_finO (ob : OB) (m w w' : Nat) (ws : List Nat) (u u' : PV) : fin ob m (w :: w' :: ws) [u, u'] = bnd (resO m ob (refs u ++ (refs u' ++ refsOuts ob 0 m)) m w u) fun a => bnd (resO m ob (refs u ++ (refs u' ++ refsOuts ob 0 m)) (m + a.2.length) w' u') fun b => bnd (outOs m ob 0 m) fun x => some (.tup [a.1, b.1], x ++ (a.2 ++ b.2)) := by
  simp only [fin, refsL, List.append_nil, resOs, List.headD_cons, List.tail_cons, List.append_assoc]
  cases resO m ob (refs u ++ (refs u' ++ refsOuts ob 0 m)) m w u with
  | none => rfl
  | some r =>
    simp only [k_bnd]
    cases resO m ob (refs u ++ (refs u' ++ refsOuts ob 0 m)) (m + r.2.length) w' u' with
    | none => rfl
    | some q =>
      simp only [k_bnd]
      cases outOs m ob 0 m with
      | none => rfl
      | some x => simp [one, k_bnd]
theorem k_finO1 (ob : OB) (m w : Nat) (ws : List Nat) (u : PV) : fin ob m (w :: ws) [u] = bnd (resO m ob (refs u ++ refsOuts ob 0 m) m w u) fun a => bnd (outOs m ob 0 m) fun x => some (a.1, x ++ a.2) := by
  simp only [fin, refsL, List.append_nil, resOs, List.headD_cons]
  cases resO m ob (refs u ++ refsOuts ob 0 m) m w u with
  | none => rfl
  | some r =>
    simp only [k_bnd]
    cases outOs m ob 0 m with
    | none => rfl
    | some x => simp [one, k_bnd]
def bxB (c u : Int) (o1 o2 nD nL : Nat) (q : List PV) : Obj' := { els := [[.i .i64 c, .sl o1 0 0 nD, .i .i64 u, .sl o2 0 0 nL, .blob 32 q]], w := 36, pu := false, g := true, cap := none, ver := 0, fro := false }
def rwB (b : List (List PV)) (w : Nat) : Obj' := { els := b, w := w, pu := true, g := true, cap := none, ver := 0, fro := false }
def osB (c u : Int) (nD nL : Nat) (q : List PV) (b a : List (List PV)) : List Obj' := [bxB c u 1 2 nD nL q, rwB b 1, rwB a 9]
theorem V60b (N d : Nat) (c u : Int) (nD nL : Nat) (q : List PV) (b a : List (List PV)) (h : okC64 c) : sem tab N (d + 1) 60 [.p 0 0 0 0 none] (osB c u nD nL q b a) = some (.i .i64 (slots c), osB c u nD nL q b a) := by
  rw [sem_succ tab N d 60 m60 rfl]
  have sr := slots_range h
  have w : IntKind.i64.wrap (c.tdiv 62) = c.tdiv 62 := by unfold slots at sr; exact w64 (by omega) (by omega)
  simp only [slots, osB, bxB, rwB]
  simp -implicitDefEqProofs (maxSteps := 1000000) (disch := first | omega | rfl) [m60, w, k_nc, k_finO1, refsOuts, refsX, outOs, outX, seaEls, KS, getS, getO, gS, zipN, dropW, sea, seaL, refs, refsL, refsEls, refsO, -getElem?_pos]
theorem k_crb (Φ : Sem') (d k : Nat) (c u n : Int) (nD nL : Nat) (q : List PV) (b a : List (List PV)) (H : Φ k [.p 0 0 0 0 none] (osB c u nD nL q b a) = some (.i .i64 n, osB c u nD nL q b a)) :
    cr Φ [(0, bxB c u 1 2 nD nL q), (1, rwB b 1), (2, rwB a 9)] d false k [.p 0 0 0 0 none] = some (.i .i64 n, []) := by
  have hc : ca Φ [(0, bxB c u 1 2 nD nL q), (1, rwB b 1), (2, rwB a 9)] d false k [.p 0 0 0 0 none] = some (.i .i64 n, [(0, bxB c u 1 2 nD nL q), (1, rwB b 1), (2, rwB a 9)]) := by
    simp only [osB, bxB, rwB] at H ⊢
    simp [ca, hand, reifies, reify, reify0, refs, refsL, refsEls, refsO, reach, getO, getOs, idx, renL, ren, renEls, renO, H, back, putOs, newOs, nth, noExt]
  have hj : ∀ j, getO ([(0, bxB c u 1 2 nD nL q), (1, rwB b 1), (2, rwB a 9)] ++ [(0, bxB c u 1 2 nD nL q), (1, rwB b 1), (2, rwB a 9)]) j = getO [(0, bxB c u 1 2 nD nL q), (1, rwB b 1), (2, rwB a 9)] j := fun j => by
    simp only [List.cons_append, List.nil_append, getO]
    by_cases e0 : 0 = j
    · simp [e0]
    · by_cases e1 : 1 = j
      · simp [e0, e1]
      · by_cases e2 : 2 = j
        · simp [e0, e1, e2]
        · simp [e0, e1, e2]
  rw [cr, hc, crX, if_pos ⟨hj, rfl⟩]
set_option maxHeartbeats 4000000 in
theorem V31b (N d : Nat) (c u : Int) (nD nL : Nat) (q : List PV) (b a : List (List PV)) (h : okC64 c) (hl : nL ≤ 50000) : sem tab N (d + 2) 31 [.p 0 0 0 0 none] (osB c u nD nL q b a) = some (.tup [.b (decide ((nL : Int) < slots c)), .i .i64 (max 0 (slots c - 4 - nL))], osB c u nD nL q b a) := by
  rw [sem_succ tab N (d + 1) 31 m31 rfl]
  have hk := fun n => k_crb (sem tab N (d + 1)) n 60 c u _ nD nL q b a (V60b N d c u nD nL q b a h)
  have sr := slots_range h
  generalize slots c = s at *
  have w1 : IntKind.i64.wrap (s - 4) = s - 4 := w64 (by omega) (by omega)
  have w2 : IntKind.i64.wrap (s - 4 - (nL : Int)) = s - 4 - (nL : Int) := w64 (by omega) (by omega)
  simp only [osB, bxB, rwB] at hk ⊢
  simp -implicitDefEqProofs (maxSteps := 1000000) (disch := first | omega | rfl) [m31, hk, w1, w2, k_mx, k_nc, k_finO, refsOuts, refsX, outOs, outX, seaEls, KS, getS, getO, gS, zipN, dropW, sea, seaL, refs, refsL, refsEls, refsO, -getElem?_pos]
theorem k_ca31b (Φ : Sem') (ob : OB) (d k : Nat) (c u n : Int) (x : Bool) (nD nL : Nat) (q : List PV) (b a : List (List PV)) (h0 : getO ob 200 = some (bxB c u 184 185 nD nL q)) (h1 : getO ob 184 = some (rwB b 1)) (h2 : getO ob 185 = some (rwB a 9))
    (H : Φ k [.p 0 0 0 0 none] (osB c u nD nL q b a) = some (.tup [.b x, .i .i64 n], osB c u nD nL q b a)) :
    ca Φ ob d false k [.p 200 0 0 0 none] = some (.tup [.b x, .i .i64 n], [(200, bxB c u 184 185 nD nL q), (184, rwB b 1), (185, rwB a 9)]) := by
  simp only [osB, bxB, rwB] at H h0 h1 h2 ⊢
  simp [ca, hand, reifies, reify, reify0, refs, refsL, refsEls, refsO, reach, h0, h1, h2, getOs, idx, renL, ren, renEls, renO, H, back, putOs, newOs, nth, noExt, noExts]
set_option maxHeartbeats 8000000 in
theorem V32b (M d : Nat) (c u : Int) (nD nL : Nat) (H : List Int) (b a : List (List PV)) (e : En) (hh : H.length = 32) (ho : okE e) (hm : mayE e = true) : sem tab (M + 1000) (d + 9) 32 [.p 0 0 0 0 none, .agg (enC e)] (osB c u nD nL (uL H) b a) = some (.tup [.sl 3 0 0 62, .agg [.blob 32 (uL (linkH H e))]], [bxB c u 1 2 nD nL (uL H), rwB b 1, rwB a 9, rwB (byL (encB e ++ linkH H e)) 1]) := by
  rw [sem_succ tab (M + 1000) (d + 8) 32 m32 rfl]
  have h34 := V34 (M + 900) (d + 4) e ho
  rw [show M + 900 + 100 = M + 1000 by omega, show d + 4 + 4 = d + 8 by omega, hm, cond_true] at h34
  have h36 := V36 M d H e hh ho
  rw [linkC, hm, cond_true] at h36
  have h63 := L38 (M + 997) (d + 6) (encB e) (linkH H e) (by rw [encB_len, linkH_len]; omega)
  rw [encB_len, linkH_len] at h63
  have be := byL_len (encB e)
  rw [encB_len] at be
  have te : List.take 30 (byL (encB e)) = byL (encB e) := List.take_of_length_le (by omega)
  have ql := uL_len (linkH H e)
  rw [linkH_len] at ql
  have tu := take_u (linkH H e) (linkH_len H e)
  have tu0 : (uL (linkH H e)).take 32 = uL (linkH H e) := by rw [← List.drop_zero (l := uL (linkH H e))]; exact tu
  have mu := map_u (linkH H e)
  have wl := byL_len (encB e ++ linkH H e)
  simp only [List.length_append, encB_len, linkH_len] at wl
  have tw : List.take 62 (byL (encB e ++ linkH H e)) = byL (encB e ++ linkH H e) := List.take_of_length_le (by omega)
  have uh := uL_len H
  rw [hh] at uh
  simp only [osB, bxB, rwB]
  generalize byL (encB e ++ linkH H e) = w at *
  generalize byL (linkH H e) = bq at *
  generalize byL (encB e) = eb at *
  generalize uL (linkH H e) = v at *
  generalize uL H = q at *
  obtain ⟨e1, e2, e3, e4, e5, e6, e7, e8, e9⟩ := e
  simp only [enC] at h34 h36 ⊢
  simp only [row] at h34 h63
  generalize hz' : List.replicate 32 (PV.i .u8 0) = zz at *
  simp -implicitDefEqProofs (maxSteps := 1000000) (disch := first | omega | rfl) [m32, h34, h36, h63, be, te, ql, tu0, mu, wl, tw, hz', k_nc, k_finO, refsOuts, refsX, outOs, outX, seaEls, KV, KS, getS, getO, gS, zipN, dropW, takeW, wds, stvs, sea, seaL, refs, refsL, refsEls, refsO, isPureEls, isPures, isPure, noExt, noExts, noExtEls, cellsL, ren, renL, cntN, boxO, row, putW, newOs, renO, noExtO, -getElem?_pos]
theorem k_ca32b (Φ : Sem') (ob : OB) (d k : Nat) (c u : Int) (nD nL : Nat) (q v : List PV) (b a w : List (List PV)) (e : En) (h0 : getO ob 200 = some (bxB c u 184 185 nD nL q)) (h1 : getO ob 184 = some (rwB b 1)) (h2 : getO ob 185 = some (rwB a 9)) (hd : getO ob d = none)
    (H : Φ k [.p 0 0 0 0 none, .agg (enC e)] (osB c u nD nL q b a) = some (.tup [.sl 3 0 0 62, .agg [.blob 32 v]], [bxB c u 1 2 nD nL q, rwB b 1, rwB a 9, rwB w 1])) :
    ca Φ ob d false k [.p 200 0 0 0 none, .agg (enC e)] = some (.tup [.sl d 0 0 62, .agg [.blob 32 v]], [(d, rwB w 1), (200, bxB c u 184 185 nD nL q), (184, rwB b 1), (185, rwB a 9)]) := by
  obtain ⟨e1, e2, e3, e4, e5, e6, e7, e8, e9⟩ := e
  simp only [osB, bxB, rwB, enC] at H h0 h1 h2 ⊢
  simp [ca, hand, reifies, reify, reifyL, reify0, refs, refsL, refsEls, refsO, reach, h0, h1, h2, hd, getOs, idx, renL, ren, renEls, renO, H, back, putOs, newOs, nth, noExt, noExts]
end
section
noncomputable def moreG (l : Lo) (e : En) : Lo := ((l.1.1, l.1.2.1 ++ (encB e ++ linkH l.2.2 e), ((l.1.2.1 ++ (encB e ++ linkH l.2.2 e)).length : Int)), l.2.1 ++ [e], linkH l.2.2 e)
noncomputable def addR (l : Lo) (e : En) (urg : Bool) : Lo × Int :=
  cond (mayG l && mayE e) (cond (decide ((l.2.1.length : Int) < slots l.1.1) && (!(waitN l == 0) || urg)) (moreG l e, 0) (l, 12)) (l, 1)
theorem mayG_spec {l : Lo} (h : mayG l = true) : l.2.1.all mayE = true ∧ mayS l.1 = true ∧ l.1.2.2 = (l.1.2.1.length : Int) ∧ chars (recL h0 l.2.1) = chars l.1.2.1 ∧ hdL h0 l.2.1 = l.2.2 ∧ l.1.2.1.length = 62 * l.2.1.length := by
  simp only [mayG, Bool.and_eq_true, beq_iff_eq, decide_eq_true_eq] at h
  obtain ⟨h1, h2, h3, h4, h5⟩ := h
  refine ⟨h1, h2, h3, h4, h5, ?_⟩
  have := congrArg List.length h4
  simp only [chars, List.length_map, recL_len] at this
  omega
theorem slots_pos {c : Int} (h : 0 ≤ c) : slots c = c / 62 := Int.tdiv_eq_ediv_of_nonneg h
set_option maxHeartbeats 32000000 in
theorem V11a (M d : Nat) (l : Lo) (e : En) (urg : Bool) (hc : okC64 l.1.1) (hD : l.1.2.1.length ≤ 40000) (hl : l.2.1.length ≤ 264) (ho : ∀ e ∈ l.2.1, okE e) (hoe : okE e) (hh : l.2.2.length = 32) :
    sem tab (M + 1000) (d + 12) 11 [.agg (loC false l), .agg (enC e), .b urg] [] = loR (addR l e urg).1 (addR l e urg).2 := by
  rw [sem_succ tab (M + 1000) (d + 11) 11 m11 rfl]
  have h22 := V22g M (d + 1) l hl ho hh
  have h29 := V61 (M + 1000) (d + 9) e
  have h30 := V30o (M + 1000) (d + 9) l (by omega) (by omega)
  have h31 := V31b (M + 1000) (d + 9) l.1.1 l.1.2.2 l.1.2.1.length l.2.1.length (uL l.2.2) (byL l.1.2.1) (enL l.2.1) hc (by omega)
  have k31 := k_ca31b (sem tab (M + 1000) (d + 11)) [(152, box [.blob 32 (List.replicate 32 (.i .u8 0))] 32), (200, bxB l.1.1 l.1.2.2 184 185 l.1.2.1.length l.2.1.length (uL l.2.2)), (184, rwB (byL l.1.2.1) 1), (185, rwB (enL l.2.1) 9), (112, box [.i .i64 0, .e true, .i .i64 0, .e true, .blob 32 (List.replicate 32 (.i .u8 0))] 36), (96, box (enC e) 9), (88, box (loC false l) 36)] 224 31 l.1.1 l.1.2.2 _ _ l.1.2.1.length l.2.1.length (uL l.2.2) (byL l.1.2.1) (enL l.2.1) rfl rfl rfl h31
  have wd0 : waitN l = max 0 (slots l.1.1 - 4 - l.2.1.length) := rfl
  rw [← wd0] at k31
  clear h31 wd0
  have hz := hz32
  have hzl : (List.replicate 32 (PV.i IntKind.u8 0)).length = 32 := rfl
  have bl := byL_len l.1.2.1
  have el := enL_len l.2.1
  have tkb : List.take l.1.2.1.length (byL l.1.2.1) = byL l.1.2.1 := List.take_of_length_le (by omega)
  have tke : List.take l.2.1.length (enL l.2.1) = enL l.2.1 := List.take_of_length_le (by omega)
  have uh := uL_len l.2.2
  rw [hh] at uh
  unfold addR loR
  clear hz
  by_cases hmm : (mayG l && mayE e) = true
  · have hmm' := hmm
    rw [Bool.and_eq_true] at hmm'
    obtain ⟨hm, hme⟩ := hmm'
    rw [hmm]
    rw [hm] at h22
    rw [hme] at h29
    by_cases hr : (decide ((l.2.1.length : Int) < slots l.1.1) && (!(waitN l == 0) || urg)) = true
    · rw [hr]
      rw [Bool.and_eq_true, decide_eq_true_eq] at hr
      obtain ⟨r1, r2⟩ := hr
      obtain ⟨g1, g2, g3, g4, g5, g6⟩ := mayG_spec hm
      have h32 := V32b M (d + 2) l.1.1 l.1.2.2 l.1.2.1.length l.2.1.length l.2.2 (byL l.1.2.1) (enL l.2.1) e hh hoe hme
      have k32 := k_ca32b (sem tab (M + 1000) (d + 11)) ((200, bxB l.1.1 l.1.2.2 184 185 l.1.2.1.length l.2.1.length (uL l.2.2)) :: (184, rwB (byL l.1.2.1) 1) :: (185, rwB (enL l.2.1) 9) :: [(152, box [.blob 32 (List.replicate 32 (.i .u8 0))] 32), (200, bxB l.1.1 l.1.2.2 184 185 l.1.2.1.length l.2.1.length (uL l.2.2)), (184, rwB (byL l.1.2.1) 1), (185, rwB (enL l.2.1) 9), (112, box [.i .i64 0, .e true, .i .i64 0, .e true, .blob 32 (List.replicate 32 (.i .u8 0))] 36), (96, box (enC e) 9), (88, box (loC false l) 36)]) 416 32 l.1.1 l.1.2.2 l.1.2.1.length l.2.1.length (uL l.2.2) _ (byL l.1.2.1) (enL l.2.1) _ e rfl rfl rfl rfl h32
      clear h32
      have h33 := V33w M (d + 6) l.1 (encB e ++ linkH l.2.2 e) (by omega) (by simp [encB_len, linkH_len])
      have rlen : (encB e ++ linkH l.2.2 e).length = 62 := by simp [encB_len, linkH_len]
      have ms := g2
      simp only [mayS, Bool.and_eq_true, decide_eq_true_eq] at ms
      rw [slots_pos (by omega)] at r1
      have lf : leftS l.1 = l.1.1 - l.1.2.1.length := by rw [leftS, g2]; rfl
      rw [outW, g2, decide_eq_false (by rw [lf, rlen]; omega)] at h33
      simp only [cond_true, cond_false] at h33
      have h34 := V34y (M + 1000) (d + 7) (l.1.1, l.1.2.1 ++ (encB e ++ linkH l.2.2 e), l.1.2.2) (by simp only [List.length_append, encB_len, linkH_len]; omega)
      have ms2 : mayS (l.1.1, l.1.2.1 ++ (encB e ++ linkH l.2.2 e), l.1.2.2) = true := by
        simp only [mayS, Bool.and_eq_true, decide_eq_true_eq, List.length_append, encB_len, linkH_len]
        omega
      rw [outY, ms2, cond_true] at h34
      have r1' : decide ((l.2.1.length : Int) < slots l.1.1) = true := by rw [slots_pos (by omega)]; exact decide_eq_true r1
      rw [r1'] at k31
      have wl := byL_len (encB e ++ linkH l.2.2 e)
      rw [rlen] at wl
      have tw : List.take 62 (byL (encB e ++ linkH l.2.2 e)) = byL (encB e ++ linkH l.2.2 e) := List.take_of_length_le (by omega)
      have vl := uL_len (linkH l.2.2 e)
      rw [linkH_len] at vl
      have le1 : l.2.1.length + 1 ≤ 4294967296 := by omega
      have le2 : ¬ (l.2.1.length + 1 ≤ l.2.1.length) := by omega
      have ta : ∀ w : List PV, List.take (l.2.1.length + 1) (enL l.2.1 ++ [w]) = enL l.2.1 ++ [w] := fun w => List.take_of_length_le (by simp; omega)
      have ea : enL (l.2.1 ++ [e]) = enL l.2.1 ++ [enC e] := by simp [enL]
      have wle := allW_en l.2.1
      simp only [cond_true, moreG, loC, stR, soC, ea] at h33 h34 ⊢
      generalize ((l.1.2.1 ++ (encB e ++ linkH l.2.2 e)).length : Int) = tl at *
      generalize hw0 : (waitN l == 0) = w0 at *
      generalize waitN l = wn at *
      generalize byL (l.1.2.1 ++ (encB e ++ linkH l.2.2 e)) = b2 at *
      generalize byL (encB e ++ linkH l.2.2 e) = w at *
      generalize uL (linkH l.2.2 e) = v at *
      clear lf ms ms2 g1 g2 g3 g4 g5 g6
      obtain ⟨⟨c, D, u⟩, L, H⟩ := l
      simp only [loC] at h22 h30 h33 bl el tkb tke uh le1 le2 ta wle ⊢
      simp only [bxB, rwB, box, loC] at k31 k32
      generalize byL D = b at *
      generalize enL L = a at *
      generalize uL H = q at *
      obtain ⟨e1, e2, e3, e4, e5, e6, e7, e8, e9⟩ := e
      simp only [enC] at h29 k31 k32 ⊢
      simp only [row] at h30
      generalize hz' : List.replicate 32 (PV.i .u8 0) = zz at *
      cases w0
      · simp -implicitDefEqProofs (maxSteps := 1000000) (disch := first | omega | rfl) [m11, h22, h29, h30, k31, k32, h33, h34, hw0, bl, el, tkb, tke, wl, tw, le1, le2, ta, hz', k_nc, KY, KS, getS, getO, gS, zipN, dropW, takeW, wds, stvs, sea, seaL, refs, refsL, refsEls, refsO, isPureEls, isPures, isPure, noExt, noExts, noExtEls, cellsL, ren, renL, keepO, keepS, keysO, refsS, refsOB, cntN, headC, boxO, putW, putB, putB1, newOs, renO, noExtO, two32, -getElem?_pos]
      · rw [show urg = true by simpa using r2]
        simp -implicitDefEqProofs (maxSteps := 1000000) (disch := first | omega | rfl) [m11, h22, h29, h30, k31, k32, h33, h34, hw0, bl, el, tkb, tke, wl, tw, le1, le2, ta, hz', k_nc, KY, KS, getS, getO, gS, zipN, dropW, takeW, wds, stvs, sea, seaL, refs, refsL, refsEls, refsO, isPureEls, isPures, isPure, noExt, noExts, noExtEls, cellsL, ren, renL, keepO, keepS, keysO, refsS, refsOB, cntN, headC, boxO, putW, putB, putB1, newOs, renO, noExtO, two32, -getElem?_pos]
    · have hr' : (decide ((l.2.1.length : Int) < slots l.1.1) && (!(waitN l == 0) || urg)) = false := by simpa using hr
      rw [hr']
      simp only [cond_true, cond_false, loC]
      generalize hw0 : (waitN l == 0) = w0 at *
      generalize waitN l = wn at *
      generalize decide ((l.2.1.length : Int) < slots l.1.1) = x at *
      obtain ⟨⟨c, D, u⟩, L, H⟩ := l
      simp only [loC] at h22 h30 bl el tkb tke uh ⊢
      simp only [bxB, rwB, box, loC] at k31
      generalize byL D = b at *
      generalize enL L = a at *
      generalize uL H = q at *
      obtain ⟨e1, e2, e3, e4, e5, e6, e7, e8, e9⟩ := e
      simp only [enC] at h29 k31 ⊢
      simp only [row] at h30
      generalize hz' : List.replicate 32 (PV.i .u8 0) = zz at *
      cases x
      · simp -implicitDefEqProofs (maxSteps := 1000000) (disch := first | omega | rfl) [m11, m11j0, h22, h29, h30, k31, bl, el, tkb, tke, hz', k_nc, KY, KS, getS, getO, gS, zipN, dropW, takeW, wds, stvs, sea, seaL, refs, refsL, refsEls, refsO, isPureEls, noExt, noExts, noExtEls, cellsL, ren, renL, keepO, keepS, keysO, refsS, refsOB, cntN, headC, boxO, putW, putB, putB1, newOs, renO, noExtO, -getElem?_pos]
      · simp only [Bool.true_and, Bool.or_eq_false_iff, Bool.not_eq_false'] at hr'
        obtain ⟨rfl, rfl⟩ := hr'
        simp -implicitDefEqProofs (maxSteps := 1000000) (disch := first | omega | rfl) [m11, m11j0, h22, h29, h30, k31, hw0, bl, el, tkb, tke, hz', k_nc, KY, KS, getS, getO, gS, zipN, dropW, takeW, wds, stvs, sea, seaL, refs, refsL, refsEls, refsO, isPureEls, noExt, noExts, noExtEls, cellsL, ren, renL, keepO, keepS, keysO, refsS, refsOB, cntN, headC, boxO, putW, putB, putB1, newOs, renO, noExtO, -getElem?_pos]
  · have hmm' : (mayG l && mayE e) = false := by simpa using hmm
    rw [hmm']
    simp only [cond_false, loC]
    generalize waitN l = wn at *
    generalize decide ((l.2.1.length : Int) < slots l.1.1) = x at *
    generalize mayG l = m1 at *
    generalize mayE e = m2 at *
    obtain ⟨⟨c, D, u⟩, L, H⟩ := l
    simp only [loC] at h22 h30 bl el tkb tke uh ⊢
    simp only [bxB, rwB, box, loC] at k31
    generalize byL D = b at *
    generalize enL L = a at *
    generalize uL H = q at *
    obtain ⟨e1, e2, e3, e4, e5, e6, e7, e8, e9⟩ := e
    simp only [enC] at h29 k31 ⊢
    simp only [row] at h30
    generalize hz' : List.replicate 32 (PV.i .u8 0) = zz at *
    cases m1
    · simp -implicitDefEqProofs (maxSteps := 1000000) (disch := first | omega | rfl) [m11, m11j0, h22, h30, k31, bl, el, tkb, tke, hz', k_nc, KY, KS, getS, getO, gS, zipN, dropW, takeW, wds, stvs, sea, seaL, refs, refsL, refsEls, refsO, isPureEls, noExt, noExts, noExtEls, cellsL, ren, renL, keepO, keepS, keysO, refsS, refsOB, cntN, headC, boxO, putW, putB, putB1, newOs, renO, noExtO, -getElem?_pos]
    · rw [show m2 = false by simpa using hmm'] at h29
      simp -implicitDefEqProofs (maxSteps := 1000000) (disch := first | omega | rfl) [m11, m11j0, h22, h29, h30, k31, bl, el, tkb, tke, hz', k_nc, KY, KS, getS, getO, gS, zipN, dropW, takeW, wds, stvs, sea, seaL, refs, refsL, refsEls, refsO, isPureEls, noExt, noExts, noExtEls, cellsL, ren, renL, keepO, keepS, keysO, refsS, refsOB, cntN, headC, boxO, putW, putB, putB1, newOs, renO, noExtO, -getElem?_pos]
end
section
noncomputable def tornS (l : Lo) (e : En) (k : Int) : So :=
  cond (mayG l && (mayE e && decide ((l.2.1.length : Int) < slots l.1.1))) (crS (l.1.1, l.1.2.1 ++ (encB e ++ linkH l.2.2 e), l.1.2.2) k) l.1
set_option maxHeartbeats 32000000 in
theorem V19t (M d : Nat) (l : Lo) (e : En) (k : Int) (hc : okC64 l.1.1) (hD : l.1.2.1.length ≤ 40000) (hl : l.2.1.length ≤ 264) (ho : ∀ e ∈ l.2.1, okE e) (hoe : okE e) (hh : l.2.2.length = 32) :
    sem tab (M + 1000) (d + 12) 19 [.agg (loC false l), .agg (enC e), .i .i64 k] [] = some (.agg (soC true (tornS l e k)), []) := by
  rw [sem_succ tab (M + 1000) (d + 11) 19 m19 rfl]
  have h22 := V22g M (d + 1) l hl ho hh
  have h29 := V61 (M + 1000) (d + 9) e
  have h30 := V30o (M + 1000) (d + 9) l (by omega) (by omega)
  have h31 := V31b (M + 1000) (d + 9) l.1.1 l.1.2.2 l.1.2.1.length l.2.1.length (uL l.2.2) (byL l.1.2.1) (enL l.2.1) hc (by omega)
  have k31 := k_ca31b (sem tab (M + 1000) (d + 11)) [(200, bxB l.1.1 l.1.2.2 184 185 l.1.2.1.length l.2.1.length (uL l.2.2)), (184, rwB (byL l.1.2.1) 1), (185, rwB (enL l.2.1) 9), (112, box [.i .i64 0, .e true, .i .i64 0] 3), (96, box (enC e) 9), (88, box (loC false l) 36)] 224 31 l.1.1 l.1.2.2 _ _ l.1.2.1.length l.2.1.length (uL l.2.2) (byL l.1.2.1) (enL l.2.1) rfl rfl rfl h31
  clear h31
  have hzl : (List.replicate 32 (PV.i IntKind.u8 0)).length = 32 := rfl
  have bl := byL_len l.1.2.1
  have el := enL_len l.2.1
  have tkb : List.take l.1.2.1.length (byL l.1.2.1) = byL l.1.2.1 := List.take_of_length_le (by omega)
  have tke : List.take l.2.1.length (enL l.2.1) = enL l.2.1 := List.take_of_length_le (by omega)
  have uh := uL_len l.2.2
  rw [hh] at uh
  unfold tornS
  by_cases hmm : (mayG l && (mayE e && decide ((l.2.1.length : Int) < slots l.1.1))) = true
  · have hmm' := hmm
    simp only [Bool.and_eq_true] at hmm'
    obtain ⟨hm, hme, hr⟩ := hmm'
    rw [hmm, cond_true]
    rw [hm] at h22
    rw [hme] at h29
    rw [hr] at k31
    have r1 := of_decide_eq_true hr
    obtain ⟨g1, g2, g3, g4, g5, g6⟩ := mayG_spec hm
    have h32 := V32b M (d + 2) l.1.1 l.1.2.2 l.1.2.1.length l.2.1.length l.2.2 (byL l.1.2.1) (enL l.2.1) e hh hoe hme
    have k32 := k_ca32b (sem tab (M + 1000) (d + 11)) ((200, bxB l.1.1 l.1.2.2 184 185 l.1.2.1.length l.2.1.length (uL l.2.2)) :: (184, rwB (byL l.1.2.1) 1) :: (185, rwB (enL l.2.1) 9) :: [(200, bxB l.1.1 l.1.2.2 184 185 l.1.2.1.length l.2.1.length (uL l.2.2)), (184, rwB (byL l.1.2.1) 1), (185, rwB (enL l.2.1) 9), (112, box [.i .i64 0, .e true, .i .i64 0] 3), (96, box (enC e) 9), (88, box (loC false l) 36)]) 408 32 l.1.1 l.1.2.2 l.1.2.1.length l.2.1.length (uL l.2.2) _ (byL l.1.2.1) (enL l.2.1) _ e rfl rfl rfl rfl h32
    clear h32
    have h33 := V33w M (d + 6) l.1 (encB e ++ linkH l.2.2 e) (by omega) (by simp [encB_len, linkH_len])
    have rlen : (encB e ++ linkH l.2.2 e).length = 62 := by simp [encB_len, linkH_len]
    have ms := g2
    simp only [mayS, Bool.and_eq_true, decide_eq_true_eq] at ms
    rw [slots_pos (by omega)] at r1
    have lf : leftS l.1 = l.1.1 - l.1.2.1.length := by rw [leftS, g2]; rfl
    rw [outW, g2, decide_eq_false (by rw [lf, rlen]; omega)] at h33
    simp only [cond_true, cond_false] at h33
    have h49 := V49c (M + 1000) (d + 6) (l.1.1, l.1.2.1 ++ (encB e ++ linkH l.2.2 e), l.1.2.2) k (by simp only [List.length_append, encB_len, linkH_len]; omega)
    have wl := byL_len (encB e ++ linkH l.2.2 e)
    rw [rlen] at wl
    have tw : List.take 62 (byL (encB e ++ linkH l.2.2 e)) = byL (encB e ++ linkH l.2.2 e) := List.take_of_length_le (by omega)
    have vl := uL_len (linkH l.2.2 e)
    rw [linkH_len] at vl
    generalize crS (l.1.1, l.1.2.1 ++ (encB e ++ linkH l.2.2 e), l.1.2.2) k = R at *
    simp only [loC, stR, soC] at h33 h49 ⊢
    generalize byL (l.1.2.1 ++ (encB e ++ linkH l.2.2 e)) = b2 at *
    generalize byL (encB e ++ linkH l.2.2 e) = w at *
    generalize uL (linkH l.2.2 e) = v at *
    generalize max 0 (slots l.1.1 - 4 - (l.2.1.length : Int)) = wn at *
    clear lf ms g1 g2 g3 g4 g5 g6
    obtain ⟨⟨c, D, u⟩, L, H⟩ := l
    obtain ⟨c', D', u'⟩ := R
    simp only [loC] at h22 h30 h33 h49 bl el tkb tke uh ⊢
    simp only [bxB, rwB, box, loC] at k31 k32
    generalize byL D = b at *
    generalize byL D' = b' at *
    generalize enL L = a at *
    generalize uL H = q at *
    obtain ⟨e1, e2, e3, e4, e5, e6, e7, e8, e9⟩ := e
    simp only [enC] at h29 k31 k32 ⊢
    simp only [row] at h30
    generalize hz' : List.replicate 32 (PV.i .u8 0) = zz at *
    simp -implicitDefEqProofs (maxSteps := 1000000) (disch := first | omega | rfl) [m19, h22, h29, h30, k31, k32, h33, h49, bl, tkb, wl, tw, hz', k_nc, KS, getS, getO, gS, zipN, dropW, takeW, wds, sea, seaL, refs, refsL, noExt, noExts, ren, renL, boxO, putW, putB, putB1, newOs, renO, noExtO, -getElem?_pos]
  · have hmm' : (mayG l && (mayE e && decide ((l.2.1.length : Int) < slots l.1.1))) = false := by simpa using hmm
    rw [hmm', cond_false]
    simp only [loC, soC]
    generalize max 0 (slots l.1.1 - 4 - (l.2.1.length : Int)) = wn at *
    generalize decide ((l.2.1.length : Int) < slots l.1.1) = x at *
    generalize mayG l = m1 at *
    generalize mayE e = m2 at *
    obtain ⟨⟨c, D, u⟩, L, H⟩ := l
    simp only [loC] at h22 h30 bl el tkb tke uh ⊢
    simp only [bxB, rwB, box, loC] at k31
    generalize byL D = b at *
    generalize enL L = a at *
    generalize uL H = q at *
    obtain ⟨e1, e2, e3, e4, e5, e6, e7, e8, e9⟩ := e
    simp only [enC] at h29 k31 ⊢
    simp only [row] at h30
    generalize hz' : List.replicate 32 (PV.i .u8 0) = zz at *
    cases m1
    · simp -implicitDefEqProofs (maxSteps := 1000000) (disch := first | omega | rfl) [m19, h22, h30, k31, bl, tkb, hz', k_nc, KS, getS, getO, gS, zipN, dropW, takeW, wds, sea, seaL, refs, refsL, noExt, noExts, ren, renL, boxO, putW, putB, putB1, newOs, renO, noExtO, -getElem?_pos]
    · cases m2
      · simp -implicitDefEqProofs (maxSteps := 1000000) (disch := first | omega | rfl) [m19, h22, h29, h30, k31, bl, tkb, hz', k_nc, KS, getS, getO, gS, zipN, dropW, takeW, wds, sea, seaL, refs, refsL, noExt, noExts, ren, renL, boxO, putW, putB, putB1, newOs, renO, noExtO, -getElem?_pos]
      · rw [show x = false by simpa using hmm'] at k31
        simp -implicitDefEqProofs (maxSteps := 1000000) (disch := first | omega | rfl) [m19, h22, h29, h30, k31, bl, tkb, hz', k_nc, KS, getS, getO, gS, zipN, dropW, takeW, wds, sea, seaL, refs, refsL, noExt, noExts, ren, renL, boxO, putW, putB, putB1, newOs, renO, noExtO, -getElem?_pos]
theorem V10f (N d : Nat) (l : Lo) : sem tab N (d + 1) 10 [.agg (loC false l)] [] = some (.b (decide ((l.2.1.length : Int) ≤ 30) && decide ((l.1.2.1.length : Int) ≤ 2500)), []) := by
  rw [sem_succ tab N d 10 m10 rfl]
  obtain ⟨⟨c, D, u⟩, L, H⟩ := l
  have bl := byL_len D
  have el := enL_len L
  simp only [loC]
  rw [← bl, ← el]
  generalize byL D = b at *
  generalize enL L = a at *
  generalize uL H = q at *
  by_cases h1 : (a.length : Int) ≤ 30
  · by_cases h2 : (b.length : Int) ≤ 2500 <;> simp -implicitDefEqProofs (maxSteps := 1000000) (disch := first | omega | rfl) [m10, h1, h2, KS, getS, getO, gS, zipN, dropW, wds, refs, boxO, -getElem?_pos]
  · simp -implicitDefEqProofs (maxSteps := 1000000) (disch := first | omega | rfl) [m10, h1, KS, getS, getO, gS, zipN, dropW, wds, refs, boxO, -getElem?_pos]
end
section
noncomputable def gL (c : Int) (L : List En) : Lo := ((c, recL h0 L, ((62 * L.length : Nat) : Int)), L, hdL h0 L)
def okG (c : Int) (L : List En) : Prop := L.all mayE = true ∧ (∀ e ∈ L, okE e) ∧ 0 ≤ c ∧ c ≤ 16384 ∧ ((62 * L.length : Nat) : Int) ≤ c
theorem okG_len {c : Int} {L : List En} (h : okG c L) : L.length ≤ 264 := by obtain ⟨_, _, _, h1, h2⟩ := h; omega
theorem mayS_gL {c : Int} {L : List En} (h : okG c L) : mayS (gL c L).1 = true := by
  obtain ⟨h1, h2, h3, h4, h5⟩ := h
  have e : ((recL h0 L).length : Int) = ((62 * L.length : Nat) : Int) := by rw [recL_len]
  have a1 : decide ((0 : Int) ≤ c) = true := decide_eq_true h3
  have a2 : decide (c ≤ (16384 : Int)) = true := decide_eq_true h4
  have a3 : decide (((recL h0 L).length : Int) ≤ c) = true := decide_eq_true (by rw [e]; exact h5)
  have a4 : decide ((0 : Int) ≤ ((62 * L.length : Nat) : Int)) = true := decide_eq_true (by omega)
  have a5 : decide (((62 * L.length : Nat) : Int) ≤ ((recL h0 L).length : Int)) = true := decide_eq_true (by rw [e]; exact Int.le_refl _)
  change (decide ((0 : Int) ≤ c) && (decide (c ≤ (16384 : Int)) && (decide (((recL h0 L).length : Int) ≤ c) && (decide ((0 : Int) ≤ ((62 * L.length : Nat) : Int)) && decide (((62 * L.length : Nat) : Int) ≤ ((recL h0 L).length : Int)))))) = true
  rw [a1, a2, a3, a4, a5]; rfl
theorem mayG_gL {c : Int} {L : List En} (h : okG c L) : mayG (gL c L) = true := by
  have hs := mayS_gL h
  obtain ⟨h1, h2, h3, h4, h5⟩ := h
  unfold mayG
  rw [hs]
  simp only [gL, h1, recL_len, BEq.rfl, decide_true, Bool.and_self]
theorem gL_R (c : Int) (L : List En) : byR (gL c L).1.2.1 := recL_R L h0 h0_R
theorem gL_hd (c : Int) (L : List En) : (gL c L).2.2.length = 32 := hdL_len L h0 h0_len
theorem sameL_self (L : List En) : sameL L L = true := (sameL_iff L L).2 rfl
theorem sameG_self (l : Lo) : sameG l l = true := by simp [sameG, sameS, sameL_self]
theorem recL_app1 (L : List En) (e : En) (h : List Int) : recL h (L ++ [e]) = recL h L ++ (encB e ++ linkH (hdL h L) e) := by
  induction L generalizing h with
  | nil => simp [recL, hdL]
  | cons x r ih => simp only [List.cons_append, recL, hdL, ih, List.append_assoc]
theorem hdL_app1 (L : List En) (e : En) (h : List Int) : hdL h (L ++ [e]) = linkH (hdL h L) e := by
  induction L generalizing h with
  | nil => simp [hdL]
  | cons x r ih => simp only [List.cons_append, hdL, ih]
theorem moreG_gL (c : Int) (L : List En) (e : En) : moreG (gL c L) e = gL c (L ++ [e]) := by
  simp only [moreG, gL]
  rw [← recL_app1, ← hdL_app1, recL_len]
theorem okG_more {c : Int} {L : List En} {e : En} (h : okG c L) (hm : mayE e = true) (ho : okE e) (hr : (L.length : Int) < slots c) : okG c (L ++ [e]) := by
  obtain ⟨h1, h2, h3, h4, h5⟩ := h
  rw [slots_pos h3] at hr
  refine ⟨by simp [h1, hm], fun x hx => (List.mem_append.1 hx).elim (h2 x) (fun hx => by simp at hx; subst hx; exact ho), h3, h4, ?_⟩
  simp only [List.length_append, List.length_singleton]
  omega
theorem addR_gL {c : Int} {L : List En} (h : okG c L) (e : En) (urg : Bool) : addR (gL c L) e urg = cond (mayE e) (cond (decide ((L.length : Int) < slots c) && (!(waitN (gL c L) == 0) || urg)) (gL c (L ++ [e]), 0) (gL c L, 12)) (gL c L, 1) := by
  unfold addR
  rw [mayG_gL h, Bool.true_and, moreG_gL]
  rfl
theorem openL_rec {c u : Int} {L : List En} (r : List Int) (h : okG c L) (hr : r.length < 62) : openL (c, recL h0 L ++ r, u) = gL c L := by
  obtain ⟨a1, a2, _⟩ := rd_recs L r h.1 h.2.1 (okG_len h) hr
  simp only [openL, gL]
  rw [a1, a2]
  have l := recL_len L h0
  rw [List.take_append_of_le_length (by omega), List.take_of_length_le (by omega)]
theorem openL_gL {c : Int} {L : List En} (h : okG c L) : openL (gL c L).1 = gL c L := by
  have := openL_rec (u := ((62 * L.length : Nat) : Int)) [] h (by decide)
  rw [List.append_nil] at this
  exact this
end
section
set_option maxHeartbeats 16000000 in
theorem awakeA (M d : Nat) : sem tab (M + 1000) (d + 13) 9 [] [] = some (.b true, []) := by
  rw [sem_succ tab (M + 1000) (d + 12) 9 m9 rfl]
  have o0 : okG 400 [] := ⟨rfl, (fun e he => by cases he), by decide, by decide, by decide⟩
  have w0 : waitN (gL 400 []) = 2 := by show max 0 (slots 400 - 4 - ((0 : Nat) : Int)) = 2; decide
  have oe : okE e1E := ⟨by decide, by decide, by decide, by decide⟩
  have oz : okE zeE := ⟨by decide, by decide, by decide, by decide⟩
  have o1 : okG 400 [e1E] := okG_more (L := []) o0 (by decide) oe (by decide)
  have w1 : waitN (gL 400 [e1E]) = 1 := by show max 0 (slots 400 - 4 - ((1 : Nat) : Int)) = 1; decide
  have h15 := V15n M (d + 3) 400
  rw [show mayS (400, [], 0) = true by decide, cond_true] at h15
  have g0 : (((400, [], 0), [], h0) : Lo) = gL 400 [] := rfl
  rw [g0] at h15
  have h11 := V11a M d (gL 400 []) e1E false (by simp only [gL, okC64]; omega) (by simp [gL, recL]) (by simp [gL]) o0.2.1 oe (gL_hd _ _)
  rw [addR_gL o0, show mayE e1E = true by decide, show (decide ((([] : List En).length : Int) < slots 400) && (!(waitN (gL 400 []) == 0) || false)) = true by rw [w0]; decide, cond_true, cond_true] at h11
  rw [show ([] : List En) ++ [e1E] = [e1E] from rfl] at h11
  have h13 := V13o M (d + 1) (gL 400 [e1E]).1 (by simp only [gL, recL_len]; simp) (gL_R _ _)
  rw [mayS_gL o1, cond_true, openL_gL o1] at h13
  have h24 := V24r M (d + 1) (gL 400 []) (by simp only [gL, okC64]; omega) (by simp [gL]) o0.2.1 (gL_hd _ _)
  rw [roomL, mayG_gL o0, cond_true, w0] at h24
  have h24' := V24r M (d + 1) (gL 400 [e1E]) (by simp only [gL, okC64]; omega) (by simp [gL]) o1.2.1 (gL_hd _ _)
  rw [roomL, mayG_gL o1, cond_true, w1] at h24'
  have h23 := V23g M (d + 9) (gL 400 [e1E]) (gL 400 [e1E]) (by simp [gL]) (gL_hd _ _) (gL_hd _ _)
  rw [sameG_self] at h23
  have h22 := V22g M (d + 2) (gL 400 [e1E]) (by simp [gL]) o1.2.1 (gL_hd _ _)
  rw [mayG_gL o1] at h22
  have h19 := V19t M d (gL 400 []) zeE 9 (by simp only [gL, okC64]; omega) (by simp [gL, recL]) (by simp [gL]) o0.2.1 oz (gL_hd _ _)
  have ht : (tornS (gL 400 []) zeE 9).2.1.length = 9 := by
    have rl : (encB zeE ++ linkH (gL 400 []).2.2 zeE).length = 62 := by simp [encB_len, linkH_len]
    rw [tornS, mayG_gL o0, show mayE zeE = true by decide, show decide (((gL 400 []).2.1.length : Int) < slots (gL 400 []).1.1) = true by simp [gL, slots], Bool.true_and, Bool.true_and, cond_true]
    have e0 : (gL 400 []).1.2.1 = [] := rfl
    have e2 : (gL 400 []).1.2.2 = 0 := rfl
    have e3 : (gL 400 []).1.1 = 400 := rfl
    rw [e0, e2, e3, List.nil_append, crS]
    have ms : mayS (400, encB zeE ++ linkH (gL 400 []).2.2 zeE, 0) = true := by
      simp only [mayS, rl]; decide
    rw [ms, cond_true]
    simp only [rl, List.length_take]
    decide
  have btl := byL_len (tornS (gL 400 []) zeE 9).2.1
  rw [ht] at btl
  have el1 := enL_len (gL 400 [e1E]).2.1
  rw [show (gL 400 [e1E]).2.1.length = 1 from rfl] at el1
  have ul0 := uL_len (gL 400 []).2.2
  rw [gL_hd] at ul0
  have ul1 := uL_len (gL 400 [e1E]).2.2
  rw [gL_hd] at ul1
  generalize tornS (gL 400 []) zeE 9 = T at *
  generalize gL 400 [e1E] = G1 at *
  generalize gL 400 [] = G0 at *
  obtain ⟨⟨c0, D0, u0⟩, L0, H0⟩ := G0
  obtain ⟨⟨c1, D1, u1⟩, L1, H1⟩ := G1
  obtain ⟨cT, DT, uT⟩ := T
  simp only [loR, loC, soC, enC, e1E, zeE] at h11 h13 h15 h19 h22 h23 h24 h24' btl el1 ul0 ul1
  generalize byL D0 = b0 at *
  generalize byL D1 = b1 at *
  generalize byL DT = bT at *
  generalize enL L0 = a0 at *
  generalize enL L1 = a1 at *
  generalize uL H0 = q0 at *
  generalize uL H1 = q1 at *
  have hzl : (List.replicate 32 (PV.i IntKind.u8 0)).length = 32 := rfl
  generalize hz' : List.replicate 32 (PV.i .u8 0) = zz at *
  simp -implicitDefEqProofs (maxSteps := 1000000) (disch := first | omega | rfl) [m9, h11, h13, h15, h19, h22, h23, h24, h24', btl, el1, hz', fV, KS, getO, zipN, dropW, takeW, wds, refs, refsL, noExt, noExts, ren, renL, boxO, putW, putB, -getElem?_pos]
end
section
set_option maxHeartbeats 8000000 in
theorem V87 (N d : Nat) (e : En) : sem tab N (d + 1) 35 [.agg (enC e)] [] = some (.b (mayE e), []) := by
  rw [sem_succ tab N d 35 m35 rfl]
  obtain ⟨e1, e2, e3, e4, e5, e6, e7, e8, e9⟩ := e
  by_cases c0 : e1 < 0
  · have hm : mayE ⟨e1, e2, e3, e4, e5, e6, e7, e8, e9⟩ = false := by
      rw [← Bool.not_eq_true]; intro h; simp only [mayE, inB, Bool.and_eq_true, decide_eq_true_eq] at h; omega
    rw [hm]
    simp only [enC]
    simp -implicitDefEqProofs (maxSteps := 1000000) (disch := first | omega | rfl) [m35, c0, KS, getS, getO, gS, zipN, dropW, wds, refs, boxO, -getElem?_pos]
  have g0 : ¬ e1 < 0 := by omega
  clear c0
  by_cases c1 : e1 ≥ 5
  · have hm : mayE ⟨e1, e2, e3, e4, e5, e6, e7, e8, e9⟩ = false := by
      rw [← Bool.not_eq_true]; intro h; simp only [mayE, inB, Bool.and_eq_true, decide_eq_true_eq] at h; omega
    have d1 : 5 ≤ e1 := by omega
    rw [hm]
    simp only [enC]
    simp -implicitDefEqProofs (maxSteps := 1000000) (disch := first | omega | rfl) [m35, g0, c1, KS, getS, getO, gS, zipN, dropW, wds, refs, boxO, -getElem?_pos]
  have g1 : ¬ e1 ≥ 5 := by omega
  have h1 : ¬ 5 ≤ e1 := by omega
  clear c1
  by_cases c2 : e2 < 0
  · have hm : mayE ⟨e1, e2, e3, e4, e5, e6, e7, e8, e9⟩ = false := by
      rw [← Bool.not_eq_true]; intro h; simp only [mayE, inB, Bool.and_eq_true, decide_eq_true_eq] at h; omega
    rw [hm]
    simp only [enC]
    simp -implicitDefEqProofs (maxSteps := 1000000) (disch := first | omega | rfl) [m35, g0, g1, c2, KS, getS, getO, gS, zipN, dropW, wds, refs, boxO, -getElem?_pos]
  have g2 : ¬ e2 < 0 := by omega
  clear c2
  by_cases c3 : e2 > 1073741824
  · have hm : mayE ⟨e1, e2, e3, e4, e5, e6, e7, e8, e9⟩ = false := by
      rw [← Bool.not_eq_true]; intro h; simp only [mayE, inB, Bool.and_eq_true, decide_eq_true_eq] at h; omega
    have d3 : 1073741824 < e2 := by omega
    rw [hm]
    simp only [enC]
    simp -implicitDefEqProofs (maxSteps := 1000000) (disch := first | omega | rfl) [m35, g0, g1, g2, c3, KS, getS, getO, gS, zipN, dropW, wds, refs, boxO, -getElem?_pos]
  have g3 : ¬ e2 > 1073741824 := by omega
  have h3 : ¬ 1073741824 < e2 := by omega
  clear c3
  by_cases c4 : e3 < 0
  · have hm : mayE ⟨e1, e2, e3, e4, e5, e6, e7, e8, e9⟩ = false := by
      rw [← Bool.not_eq_true]; intro h; simp only [mayE, inB, Bool.and_eq_true, decide_eq_true_eq] at h; omega
    rw [hm]
    simp only [enC]
    simp -implicitDefEqProofs (maxSteps := 1000000) (disch := first | omega | rfl) [m35, g0, g1, g2, g3, c4, KS, getS, getO, gS, zipN, dropW, wds, refs, boxO, -getElem?_pos]
  have g4 : ¬ e3 < 0 := by omega
  clear c4
  by_cases c5 : e3 > 1073741824
  · have hm : mayE ⟨e1, e2, e3, e4, e5, e6, e7, e8, e9⟩ = false := by
      rw [← Bool.not_eq_true]; intro h; simp only [mayE, inB, Bool.and_eq_true, decide_eq_true_eq] at h; omega
    have d5 : 1073741824 < e3 := by omega
    rw [hm]
    simp only [enC]
    simp -implicitDefEqProofs (maxSteps := 1000000) (disch := first | omega | rfl) [m35, g0, g1, g2, g3, g4, c5, KS, getS, getO, gS, zipN, dropW, wds, refs, boxO, -getElem?_pos]
  have g5 : ¬ e3 > 1073741824 := by omega
  have h5 : ¬ 1073741824 < e3 := by omega
  clear c5
  by_cases c6 : ¬ e4 ≥ 0
  · have hm : mayE ⟨e1, e2, e3, e4, e5, e6, e7, e8, e9⟩ = false := by
      rw [← Bool.not_eq_true]; intro h; simp only [mayE, inB, Bool.and_eq_true, decide_eq_true_eq] at h; omega
    have d6 : ¬ 0 ≤ e4 := by omega
    rw [hm]
    simp only [enC]
    simp -implicitDefEqProofs (maxSteps := 1000000) (disch := first | omega | rfl) [m35, g0, g1, g2, g3, g4, g5, c6, KS, getS, getO, gS, zipN, dropW, wds, refs, boxO, -getElem?_pos]
  have g6 : e4 ≥ 0 := by omega
  have h6 : 0 ≤ e4 := by omega
  clear c6
  by_cases c7 : ¬ e4 ≤ 255
  · have hm : mayE ⟨e1, e2, e3, e4, e5, e6, e7, e8, e9⟩ = false := by
      rw [← Bool.not_eq_true]; intro h; simp only [mayE, inB, Bool.and_eq_true, decide_eq_true_eq] at h; omega
    rw [hm]
    simp only [enC]
    simp -implicitDefEqProofs (maxSteps := 1000000) (disch := first | omega | rfl) [m35, g0, g1, g2, g3, g4, g5, g6, c7, KS, getS, getO, gS, zipN, dropW, wds, refs, boxO, -getElem?_pos]
  have g7 : e4 ≤ 255 := by omega
  clear c7
  by_cases c8 : ¬ e7 ≥ 0
  · have hm : mayE ⟨e1, e2, e3, e4, e5, e6, e7, e8, e9⟩ = false := by
      rw [← Bool.not_eq_true]; intro h; simp only [mayE, inB, Bool.and_eq_true, decide_eq_true_eq] at h; omega
    have d8 : ¬ 0 ≤ e7 := by omega
    rw [hm]
    simp only [enC]
    simp -implicitDefEqProofs (maxSteps := 1000000) (disch := first | omega | rfl) [m35, g0, g1, g2, g3, g4, g5, g6, g7, c8, KS, getS, getO, gS, zipN, dropW, wds, refs, boxO, -getElem?_pos]
  have g8 : e7 ≥ 0 := by omega
  have h8 : 0 ≤ e7 := by omega
  clear c8
  by_cases c9 : ¬ e7 ≤ 255
  · have hm : mayE ⟨e1, e2, e3, e4, e5, e6, e7, e8, e9⟩ = false := by
      rw [← Bool.not_eq_true]; intro h; simp only [mayE, inB, Bool.and_eq_true, decide_eq_true_eq] at h; omega
    rw [hm]
    simp only [enC]
    simp -implicitDefEqProofs (maxSteps := 1000000) (disch := first | omega | rfl) [m35, g0, g1, g2, g3, g4, g5, g6, g7, g8, c9, KS, getS, getO, gS, zipN, dropW, wds, refs, boxO, -getElem?_pos]
  have g9 : e7 ≤ 255 := by omega
  clear c9
  by_cases c10 : ¬ e8 ≥ 0
  · have hm : mayE ⟨e1, e2, e3, e4, e5, e6, e7, e8, e9⟩ = false := by
      rw [← Bool.not_eq_true]; intro h; simp only [mayE, inB, Bool.and_eq_true, decide_eq_true_eq] at h; omega
    have d10 : ¬ 0 ≤ e8 := by omega
    rw [hm]
    simp only [enC]
    simp -implicitDefEqProofs (maxSteps := 1000000) (disch := first | omega | rfl) [m35, g0, g1, g2, g3, g4, g5, g6, g7, g8, g9, c10, KS, getS, getO, gS, zipN, dropW, wds, refs, boxO, -getElem?_pos]
  have g10 : e8 ≥ 0 := by omega
  have h10 : 0 ≤ e8 := by omega
  clear c10
  by_cases c11 : ¬ e8 ≤ 65535
  · have hm : mayE ⟨e1, e2, e3, e4, e5, e6, e7, e8, e9⟩ = false := by
      rw [← Bool.not_eq_true]; intro h; simp only [mayE, inB, Bool.and_eq_true, decide_eq_true_eq] at h; omega
    rw [hm]
    simp only [enC]
    simp -implicitDefEqProofs (maxSteps := 1000000) (disch := first | omega | rfl) [m35, g0, g1, g2, g3, g4, g5, g6, g7, g8, g9, g10, c11, KS, getS, getO, gS, zipN, dropW, wds, refs, boxO, -getElem?_pos]
  have g11 : e8 ≤ 65535 := by omega
  clear c11
  by_cases c12 : ¬ e9 ≥ 0
  · have hm : mayE ⟨e1, e2, e3, e4, e5, e6, e7, e8, e9⟩ = false := by
      rw [← Bool.not_eq_true]; intro h; simp only [mayE, inB, Bool.and_eq_true, decide_eq_true_eq] at h; omega
    have d12 : ¬ 0 ≤ e9 := by omega
    rw [hm]
    simp only [enC]
    simp -implicitDefEqProofs (maxSteps := 1000000) (disch := first | omega | rfl) [m35, g0, g1, g2, g3, g4, g5, g6, g7, g8, g9, g10, g11, c12, KS, getS, getO, gS, zipN, dropW, wds, refs, boxO, -getElem?_pos]
  have g12 : e9 ≥ 0 := by omega
  have h12 : 0 ≤ e9 := by omega
  clear c12
  by_cases c13 : ¬ e9 ≤ 12
  · have hm : mayE ⟨e1, e2, e3, e4, e5, e6, e7, e8, e9⟩ = false := by
      rw [← Bool.not_eq_true]; intro h; simp only [mayE, inB, Bool.and_eq_true, decide_eq_true_eq] at h; omega
    rw [hm]
    simp only [enC]
    simp -implicitDefEqProofs (maxSteps := 1000000) (disch := first | omega | rfl) [m35, g0, g1, g2, g3, g4, g5, g6, g7, g8, g9, g10, g11, g12, c13, KS, getS, getO, gS, zipN, dropW, wds, refs, boxO, -getElem?_pos]
  have g13 : e9 ≤ 12 := by omega
  clear c13
  have hm : mayE ⟨e1, e2, e3, e4, e5, e6, e7, e8, e9⟩ = true := by
    simp only [mayE, inB, Bool.and_eq_true, decide_eq_true_eq]; omega
  rw [hm]
  simp only [enC]
  simp -implicitDefEqProofs (maxSteps := 1000000) (disch := first | omega | rfl) [m35, g0, g1, g2, g3, g4, g5, g6, g7, g8, g9, g10, g11, g12, g13, KS, getS, getO, gS, zipN, dropW, wds, refs, boxO, -getElem?_pos]
set_option maxHeartbeats 8000000 in
theorem V68 (N d : Nat) (e : En) (h : okE e) : sem tab (N + 100) (d + 4) 67 [.agg (enC e)] [] = cond (mayE e) (some (.tup [.sl 0 0 0 30, .b true], [row (byL (encB e)) 1 true])) (some (.tup [.sl 0 0 0 0, .b false], [row [] 1 true])) := by
  rw [sem_succ tab (N + 100) (d + 3) 67 m67 rfl]
  have h87 := V87 (N + 100) (d + 2) e
  cases hm : mayE e
  · rw [hm] at h87
    simp only [enC] at h87 ⊢
    simp -implicitDefEqProofs (maxSteps := 1000000) (disch := first | omega | rfl) [m67, h87, KS, getS, getO, gS, zipN, dropW, takeW, wds, stvs, refs, refsL, isPureEls, isPures, isPure, noExt, noExts, noExtEls, cellsL, ren, boxO, row, putW, putB, putB1, -getElem?_pos]
  · rw [hm] at h87
    have h49 := U90c N d (nuE e) (by simp [nuE]) (okNu_nuE e h hm)
    rw [fitAll_nuE e hm, cond_true, catB_nuE, encB_len] at h49
    have hb := hm
    simp only [mayE, inB, Bool.and_eq_true, decide_eq_true_eq] at hb
    have w : ∀ n : Int, 0 ≤ n → n ≤ 1073741824 → IntKind.u64.wrap n = n := fun n h0 h1 => by rw [IntKind.wrap_u64]; omega
    have w1 := w e.kind (by omega) (by omega)
    have w2 := w e.tick (by omega) (by omega)
    have w3 := w e.epoch (by omega) (by omega)
    have w4 := w e.user (by omega) (by omega)
    have w7 := w e.cmd (by omega) (by omega)
    have w8 := w e.arg (by omega) (by omega)
    have w9 := w e.code (by omega) (by omega)
    have be := byL_len (encB e)
    rw [encB_len] at be
    have te : List.take 30 (byL (encB e)) = byL (encB e) := List.take_of_length_le (by omega)
    simp only [nuL, nuE, List.map_cons, List.map_nil, show ((1 : Nat) : Int) = 1 from rfl, show ((2 : Nat) : Int) = 2 from rfl, show ((4 : Nat) : Int) = 4 from rfl, show ((8 : Nat) : Int) = 8 from rfl] at h49
    simp only [enC] at h87 ⊢
    generalize byL (encB e) = b at *
    simp only [row] at h49
    simp -implicitDefEqProofs (maxSteps := 1000000) (disch := first | omega | rfl) [m67, h87, h49, be, te, w1, w2, w3, w4, w7, w8, w9, KS, getS, getO, gS, zipN, dropW, takeW, wds, stvs, refs, refsL, isPureEls, isPures, isPure, noExt, noExts, noExtEls, cellsL, ren, renL, cntN, boxO, row, putW, putB, putB1, newOs, renO, noExtO, -getElem?_pos]
def sl42y (a b : List (List PV)) (i : Nat) : SL := [(0, .l false a), (1, .l false b), (5, .i .i64 i)]
set_option maxHeartbeats 4000000 in
theorem stepv42 (N d : Nat) (g : SL → OB → Option R) (a b : List (List PV)) (i : Nat) (e f : En) (hx : a[i]? = some (enC e)) (hy : b[i]? = some (enC f)) (hi : i < a.length) (hn : a.length < 1000000) :
    m48b0 (sem tab N d) N [] g (sl42y a b i) [] = cond (eqE e f) (g (sl42y a b (i + 1)) []) (some (.b false, [])) := by
  have w2 := w64n (i := i) (by omega)
  have ci : (i : Int) < a.length := by omega
  have he := k_est true e f
  generalize eqE e f = q at *
  obtain ⟨e1, e2, e3, e4, e5, e6, e7, e8, e9⟩ := e
  obtain ⟨f1, f2, f3, f4, f5, f6, f7, f8, f9⟩ := f
  simp only [enC] at he hx hy
  cases q <;> simp -implicitDefEqProofs (maxSteps := 1000000) (disch := first | omega | rfl) [m48b0, sl42y, hx, hy, w2, ci, he, KS, getS, gS, takeW, wds, refs, keepO, keepS, keysO, refsS, refsOB, headC, -getElem?_pos]
set_option maxHeartbeats 4000000 in
theorem endv42 (N d : Nat) (g : SL → OB → Option R) (a b : List (List PV)) : m48b0 (sem tab N d) N [] g (sl42y a b a.length) [] = some (.b true, []) := by
  simp -implicitDefEqProofs (maxSteps := 1000000) (disch := first | omega | rfl) [m48b0, sl42y, KS, getS, gS, refs, keepO, keepS, keysO, refsS, refsOB, headC, -getElem?_pos]
theorem loopv42 (N d : Nat) (l m : List En) (he : l.length = m.length) (hl : l.length < 1000000) : ∀ (k i e : Nat), i + k = l.length →
    loopC (m48b0 (sem tab N d) N []) (e + 1 + k) (sl42y (enL l) (enL m) i) [] = some (.b (sameL (l.drop i) (m.drop i)), []) := by
  intro k
  induction k with
  | zero =>
    intro i e h
    have : i = l.length := by omega
    subst this
    have en := endv42 N d (loopC (m48b0 (sem tab N d) N []) e) (enL l) (enL m)
    rw [enL_len] at en
    rw [Nat.add_zero, k_loop, en, List.drop_length, he, List.drop_length]; rfl
  | succ k ih =>
    intro i e h
    have hi : i < l.length := by omega
    have hi' : i < m.length := by omega
    rw [← Nat.add_assoc, k_loop, stepv42 N d _ (enL l) (enL m) i _ _ (enL_get l i hi) (enL_get m i hi') (by rw [enL_len]; exact hi) (by rw [enL_len]; exact hl), List.drop_eq_getElem_cons hi, List.drop_eq_getElem_cons hi', sameL]
    cases ho : eqE l[i] m[i]
    · rfl
    · rw [cond_true, ih (i + 1) e (by omega), Bool.true_and]
theorem V42 (N d : Nat) (l m : List En) (hl : l.length < 1000) : sem tab (N + 1000) (d + 1) 48 [.l false (enL l), .l false (enL m)] [] = some (.b (sameL l m), []) := by
  rw [sem_succ tab (N + 1000) d 48 m48 rfl]
  have hx := enL_len l
  have hy := enL_len m
  by_cases he : l.length = m.length
  · have h := loopv42 (N + 1000) d l m he (by omega) l.length 0 (N + 999 - l.length) (by omega)
    rw [show N + 999 - l.length + 1 + l.length = N + 1000 by omega, k_loop] at h
    simp only [sl42y, List.drop_zero] at h
    rw [show ((0 : Nat) : Int) = 0 from rfl] at h
    generalize sameL l m = q at *
    rw [← hx, ← hy] at he
    generalize enL l = a at *
    generalize enL m = b at *
    have e1 : (((a.length : Nat) : Int) != ((b.length : Nat) : Int)) = false := by simp [he]
    simp -implicitDefEqProofs (maxSteps := 1000000) (disch := first | omega | rfl) [m48, h, e1, KS, getS, gS, zipN, refs, keepO, keepS, keysO, refsS, refsOB, cntN, headC, -getElem?_pos]
  · rw [sameL_len l m he]
    rw [← hx, ← hy] at he
    generalize enL l = a at *
    generalize enL m = b at *
    have e1 : (((a.length : Nat) : Int) != ((b.length : Nat) : Int)) = true := by simp; omega
    simp -implicitDefEqProofs (maxSteps := 1000000) (disch := first | omega | rfl) [m48, e1, KS, getS, gS, zipN, refs, keepO, keepS, keysO, refsS, refsOB, cntN, headC, -getElem?_pos]
end
section
def sl97 (b : List (List PV)) (at' k : Nat) (acc : Int) (i : Nat) : SL := [(0, .l false b), (1, .i .i64 at'), (2, .i .i64 k), (8, .i .u64 acc), (9, .i .i64 i)]
set_option maxHeartbeats 4000000 in
theorem stepv97 (Φ : Sem') (N : Nat) (g : SL → OB → Option R) (b : List (List PV)) (at' k i : Nat) (acc c : Int) (hx : b[i]? = some [.i .u8 c]) (hi : i < at' + k) (hn : at' + k < 1000000) (ha : 0 ≤ acc ∧ acc < 2 ^ 56) (hc : 0 ≤ c ∧ c ≤ 255) :
    m93b0 Φ N [] g (sl97 b at' k acc i) [] = g (sl97 b at' k (acc * 256 + c) (i + 1)) [] := by
  have w1 : IntKind.i64.wrap ((at' : Int) + k) = (at' : Int) + k := w64 (by omega) (by omega)
  have ci : (i : Int) < (at' : Int) + k := by omega
  have w2 := w64n (i := i) (by omega)
  have w3 : IntKind.u64.wrap (256 * acc) = 256 * acc := by rw [IntKind.wrap_u64]; omega
  have w4 : IntKind.u64.wrap c = c := by rw [IntKind.wrap_u64]; omega
  have w5 : IntKind.u64.wrap (256 * acc + c) = acc * 256 + c := by rw [IntKind.wrap_u64]; omega
  simp -implicitDefEqProofs (maxSteps := 1000000) (disch := first | omega | rfl) [m93b0, sl97, hx, w1, ci, w2, w3, w4, w5, KS, getS, gS, wds, refs, keepO, keepS, keysO, refsS, refsOB, headC, -getElem?_pos]
set_option maxHeartbeats 4000000 in
theorem endv97 (Φ : Sem') (N : Nat) (g : SL → OB → Option R) (b : List (List PV)) (at' k : Nat) (acc : Int) (hn : at' + k < 1000000) :
    m93b0 Φ N [] g (sl97 b at' k acc (at' + k)) [] = some (.tup [.i .u64 acc, .i .i64 ((at' + k : Nat) : Int)], []) := by
  have w1 : IntKind.i64.wrap ((at' : Int) + k) = (at' : Int) + k := w64 (by omega) (by omega)
  simp -implicitDefEqProofs (maxSteps := 1000000) (disch := first | omega | rfl) [m93b0, sl97, w1, KS, getS, gS, refs, keepO, keepS, keysO, refsS, refsOB, headC, w64, -getElem?_pos]
theorem loopv97 (Φ : Sem') (N : Nat) (bs : List Int) (at' k : Nat) (hk : k ≤ 8) (hb : bs.length < 1000000) (hr : ∀ x ∈ bs, 0 ≤ x ∧ x ≤ 255) (hf : at' + k ≤ bs.length) : ∀ (j i e : Nat), i + j = k →
    loopC (m93b0 Φ N []) (e + 1 + j) (sl97 (byL bs) at' k (val (((bs.drop at').take k).take i)) (at' + i)) [] = some (.tup [.i .u64 (val ((bs.drop at').take k)), .i .i64 ((at' + k : Nat) : Int)], []) := by
  have hyl : ((bs.drop at').take k).length = k := by rw [List.length_take, List.length_drop]; omega
  have hyr : ∀ x ∈ (bs.drop at').take k, 0 ≤ x ∧ x ≤ 255 := fun x hx => hr x (List.mem_of_mem_drop (List.mem_of_mem_take hx))
  intro j
  induction j with
  | zero =>
    intro i e h
    have : i = k := by omega
    subst this
    rw [Nat.add_zero, k_loop, endv97 Φ N _ (byL bs) at' i _ (by omega), List.take_of_length_le (by omega)]
  | succ j ih =>
    intro i e h
    have hi : i < ((bs.drop at').take k).length := by omega
    have hv := val_range (((bs.drop at').take k).take i) (fun x hx => hyr x (List.mem_of_mem_take hx))
    have hle : (((bs.drop at').take k).take i).length ≤ 7 := by rw [List.length_take]; omega
    have hp : (256 : Int) ^ (((bs.drop at').take k).take i).length ≤ 2 ^ 56 := (by decide : ∀ m ≤ 7, (256 : Int) ^ m ≤ 2 ^ 56) _ hle
    have gx : (byL bs)[at' + i]? = some [.i .u8 ((bs.drop at').take k)[i]] := by
      simp only [byL, List.getElem?_map]
      rw [List.getElem?_eq_getElem (by omega)]
      simp
    rw [← Nat.add_assoc, k_loop, stepv97 Φ N _ (byL bs) at' k (at' + i) _ _ gx (by omega) (by omega) ⟨hv.1, by omega⟩ (hyr _ (List.getElem_mem hi))]
    rw [← val_app, List.take_append_getElem hi]
    exact ih (i + 1) e (by omega)
set_option maxHeartbeats 4000000 in
theorem V97 (N d : Nat) (bs : List Int) (at' k : Nat) (hk : 1 ≤ k ∧ k ≤ 8) (hb : bs.length < 1000000) (hr : ∀ x ∈ bs, 0 ≤ x ∧ x ≤ 255) (hf : at' + k ≤ bs.length) :
    sem tab (N + 100) (d + 1) 93 [.l false (byL bs), .i .i64 at', .i .i64 k] [] = some (.tup [.i .u64 (val ((bs.drop at').take k)), .i .i64 ((at' + k : Nat) : Int)], []) := by
  rw [sem_succ tab (N + 100) d 93 m93 rfl]
  have h := loopv97 (sem tab (N + 100) d) (N + 100) bs at' k (by omega) hb hr hf k 0 (N + 99 - k) (by omega)
  rw [show N + 99 - k + 1 + k = N + 100 by omega, k_loop, List.take_zero, show val [] = 0 from rfl] at h
  have hbl := byL_len bs
  simp only [sl97, Nat.add_zero] at h
  have c0 : ¬ ((k : Int) < 1) := by omega
  have c0' : ¬ ((k : Int) > 8) := by omega
  have c0'' : ¬ (8 < (k : Int)) := by omega
  have c1 : ¬ ((at' : Int) < 0) := by omega
  have c2 : ¬ ((at' : Int) > (byL bs).length) := by omega
  have c2' : ¬ (((byL bs).length : Int) < at') := by omega
  have c3 : ¬ (((byL bs).length : Int) - at' < k) := by omega
  have w1 : IntKind.i64.wrap (((byL bs).length : Int) - at') = ((byL bs).length : Int) - at' := w64 (by omega) (by omega)
  generalize val ((bs.drop at').take k) = V at *
  generalize byL bs = b at *
  generalize ((at' + k : Nat) : Int) = z at *
  simp -implicitDefEqProofs (maxSteps := 1000000) (disch := first | omega | rfl) [m93, c0, c0', c1, c2, c3, w1, h, KS, getS, gS, zipN, refs, keepO, keepS, keysO, refsS, refsOB, cntN, headC, -getElem?_pos]
def sl91 (b : List (List PV)) (ss : List (List PV)) (m at' i : Nat) : SL := [(0, .l false b), (1, .l false ss), (8, .sl 135 0 0 m), (9, .i .i64 at'), (10, .i .i64 i)]
set_option maxHeartbeats 4000000 in
theorem stepv91 (N d : Nat) (g : SL → OB → Option R) (bs : List Int) (ss t : List (List PV)) (i at' k : Nat) (hx : ss[i]? = some [.i .i64 k]) (hi : i < ss.length) (hn : ss.length ≤ 40) (hk : 1 ≤ k ∧ k ≤ 8) (hb : bs.length < 1000000) (hr : ∀ x ∈ bs, 0 ≤ x ∧ x ≤ 255) (hf : at' + k ≤ bs.length) (ht : t.length ≤ 100000) :
    m83b0 (sem tab (N + 100) (d + 1)) (N + 100) [] g (sl91 (byL bs) ss t.length at' i) [(135, row t 1 true)] = g (sl91 (byL bs) ss (t ++ [[PV.i .u64 (val ((bs.drop at').take k))]]).length (at' + k) (i + 1)) [(135, row (t ++ [[.i .u64 (val ((bs.drop at').take k))]]) 1 true)] := by
  have h97 := V97 N d bs at' k hk hb hr hf
  have w2 := w64n (i := i) (by omega)
  have ci : (i : Int) < ss.length := by omega
  generalize val ((bs.drop at').take k) = V at *
  generalize byL bs = b at *
  have t2 : List.take t.length t = t := List.take_length
  have e0 : t.length + 1 ≤ 4294967296 := by omega
  have e1 : ¬ (t.length + 1 ≤ t.length) := by omega
  have e3 : (t ++ [[PV.i .u64 V]]).length = t.length + 1 := by simp
  have e4 : List.take (t.length + 1) (t ++ [[PV.i .u64 V]]) = t ++ [[PV.i .u64 V]] := List.take_of_length_le (by omega)
  generalize hz : ((at' + k : Nat) : Int) = z at *
  simp -implicitDefEqProofs (maxSteps := 1000000) (disch := first | omega | rfl) [m83b0, sl91, hx, h97, w2, ci, t2, e0, e1, e3, hz, KS, getS, getO, gS, wds, stvs, refs, refsL, isPureEls, isPures, isPure, noExt, noExts, noExtEls, cellsL, ren, renL, keepO, keepS, keysO, refsS, refsOB, cntN, headC, setS, row, two32, -getElem?_pos]
set_option maxHeartbeats 4000000 in
theorem endv91 (Φ : Sem') (N : Nat) (g : SL → OB → Option R) (b : List (List PV)) (ss t : List (List PV)) (at' : Nat) :
    m83b0 Φ N [] g (sl91 b ss t.length at' ss.length) [(135, row t 1 true)] = some (.tup [.sl 0 0 0 t.length, .b true], [row t 1 true]) := by
  have t2 : List.take t.length t = t := List.take_length
  simp -implicitDefEqProofs (maxSteps := 1000000) (disch := first | omega | rfl) [m83b0, sl91, t2, KS, getS, getO, gS, stvs, refs, isPureEls, noExtEls, cellsL, cntN, row, -getElem?_pos]
theorem kL_len (ks : List Nat) : (kL ks).length = ks.length := by simp [kL]
theorem kL_get (ks : List Nat) (i : Nat) (h : i < ks.length) : (kL ks)[i]? = some [.i .i64 (ks[i] : Nat)] := by simp [kL, h]
theorem loopv91 (N d : Nat) (bs : List Int) (ks : List Nat) (hks : ∀ k ∈ ks, 1 ≤ k ∧ k ≤ 8) (hn : ks.length ≤ 40) (hb : bs.length < 1000000) (hr : ∀ x ∈ bs, 0 ≤ x ∧ x ≤ 255) : ∀ (j i e at' : Nat) (t : List (List PV)), i + j = ks.length → at' + sumL (ks.drop i) = bs.length → t.length = i →
    loopC (m83b0 (sem tab (N + 100) (d + 1)) (N + 100) []) (e + 1 + j) (sl91 (byL bs) (kL ks) t.length at' i) [(135, row t 1 true)] = some (.tup [.sl 0 0 0 (t ++ cuts bs at' (ks.drop i)).length, .b true], [row (t ++ cuts bs at' (ks.drop i)) 1 true]) := by
  intro j
  induction j with
  | zero =>
    intro i e at' t h hs ht
    have : i = (kL ks).length := by rw [kL_len]; omega
    subst this
    rw [Nat.add_zero, k_loop, endv91, kL_len, List.drop_length]
    simp [cuts]
  | succ j ih =>
    intro i e at' t h hs ht
    have hi : i < ks.length := by omega
    have q1 := List.drop_eq_getElem_cons hi
    rw [q1] at hs ⊢
    simp only [sumL] at hs
    have hk := hks _ (List.getElem_mem hi)
    rw [← Nat.add_assoc, k_loop, stepv91 N d _ bs (kL ks) t i at' ks[i] (kL_get ks i hi) (by rw [kL_len]; exact hi) (by rw [kL_len]; exact hn) hk hb hr (by omega) (by omega), ih (i + 1) e _ _ (by omega) (by omega) (by simp [ht])]
    simp only [cuts, List.append_assoc, List.cons_append, List.nil_append]
def sl91b (b : List (List PV)) (ss : List (List PV)) (s i : Nat) : SL := [(0, .l false b), (1, .l false ss), (6, .i .i64 s), (7, .i .i64 i)]
set_option maxHeartbeats 4000000 in
theorem stepv91b (Φ : Sem') (N : Nat) (g : SL → OB → Option R) (b ss : List (List PV)) (s i k : Nat) (hx : ss[i]? = some [.i .i64 k]) (hi : i < ss.length) (hn : ss.length ≤ 40) (hk : 1 ≤ k ∧ k ≤ 8) (hs : s < 100000) :
    m83b1 Φ N [] g (sl91b b ss s i) [] = g (sl91b b ss (s + k) (i + 1)) [] := by
  have w2 := w64n (i := i) (by omega)
  have ci : (i : Int) < ss.length := by omega
  have c1 : ¬ ((k : Int) < 1) := by omega
  have c2 : ¬ ((k : Int) > 8) := by omega
  have c2' : ¬ (8 < (k : Int)) := by omega
  have c3 : ¬ ((i : Int) ≥ 40) := by omega
  have c3' : ¬ (40 ≤ (i : Int)) := by omega
  have w3 : IntKind.i64.wrap ((s : Int) + k) = ((s + k : Nat) : Int) := by rw [w64 (by omega) (by omega)]; omega
  generalize hz : ((s + k : Nat) : Int) = z at *
  simp -implicitDefEqProofs (maxSteps := 1000000) (disch := first | omega | rfl) [m83b1, sl91b, hx, w2, ci, c1, c2, c3, w3, hz, KS, getS, getO, gS, wds, refs, keepO, keepS, keysO, refsS, refsOB, cntN, headC, setS, row, -getElem?_pos]
theorem loopv91b (Φ : Sem') (N : Nat) (b : List (List PV)) (ks : List Nat) (hks : ∀ k ∈ ks, 1 ≤ k ∧ k ≤ 8) (hn : ks.length ≤ 40) : ∀ (j i e s : Nat), i + j = ks.length → s ≤ 8 * i →
    loopC (m83b1 Φ N []) (e + 1 + j) (sl91b b (kL ks) s i) [] = m83b1 Φ N [] (loopC (m83b1 Φ N []) e) (sl91b b (kL ks) (s + sumL (ks.drop i)) ks.length) [] := by
  intro j
  induction j with
  | zero =>
    intro i e s h hs
    have : i = ks.length := by omega
    subst this
    rw [Nat.add_zero, k_loop, List.drop_length]
    rfl
  | succ j ih =>
    intro i e s h hs
    have hi : i < ks.length := by omega
    have q1 := List.drop_eq_getElem_cons hi
    have hk := hks _ (List.getElem_mem hi)
    rw [← Nat.add_assoc, k_loop, stepv91b Φ N _ b (kL ks) s i ks[i] (kL_get ks i hi) (by rw [kL_len]; exact hi) (by rw [kL_len]; exact hn) hk (by omega), ih (i + 1) e _ (by omega) (by omega), q1, sumL, Nat.add_assoc]
set_option maxHeartbeats 4000000 in
theorem V91 (N d : Nat) (bs : List Int) (ks : List Nat) (hks : ∀ k ∈ ks, 1 ≤ k ∧ k ≤ 8) (hn : ks.length ≤ 40) (hb : bs.length < 1000000) (hr : ∀ x ∈ bs, 0 ≤ x ∧ x ≤ 255) (hs : sumL ks = bs.length) :
    sem tab (N + 100) (d + 2) 83 [.l false (byL bs), .l false (kL ks)] [] = some (.tup [.sl 0 0 0 (cuts bs 0 ks).length, .b true], [row (cuts bs 0 ks) 1 true]) := by
  rw [sem_succ tab (N + 100) (d + 1) 83 m83 rfl]
  have h := loopv91 N d bs ks hks hn hb hr ks.length 0 (N + 99 - ks.length) 0 [] (by omega) (by simpa using hs) rfl
  rw [show N + 99 - ks.length + 1 + ks.length = N + 100 by omega, List.drop_zero, List.nil_append] at h
  have h1 := loopv91b (sem tab (N + 100) (d + 1)) (N + 100) (byL bs) ks hks hn ks.length 0 (N + 99 - ks.length) 0 (by omega) (by omega)
  rw [show N + 99 - ks.length + 1 + ks.length = N + 100 by omega, List.drop_zero, Nat.zero_add, hs, k_loop] at h1
  have bl := byL_len bs
  have kl := kL_len ks
  simp only [sl91, List.length_nil] at h
  simp only [sl91b] at h1
  rw [← bl, ← kl] at h1
  generalize cuts bs 0 ks = c at *
  generalize kL ks = m at *
  generalize byL bs = b at *
  rw [show ((0 : Nat) : Int) = 0 from rfl] at h h1
  simp only [row] at h ⊢
  rw [k_loop] at h
  have step : ∀ g, m83b1 (sem tab (N + 100) (d + 1)) (N + 100) [] g [(0, .l false b), (1, .l false m), (6, .i .i64 b.length), (7, .i .i64 m.length)] [] = some (.tup [.sl 0 0 0 c.length, .b true], [{ els := c, w := 1, pu := true, g := true, cap := none, ver := 0, fro := false }]) := by
    clear h1
    intro g
    simp -implicitDefEqProofs (maxSteps := 1000000) (disch := first | omega | rfl) [m83b1, h, KS, getS, getO, gS, refs, keepO, keepS, keysO, refsS, refsOB, cntN, headC, setS, row, w64, -getElem?_pos]
  rw [step] at h1
  simp -implicitDefEqProofs (maxSteps := 1000000) (disch := first | omega | rfl) [m83, h1, KS, getS, gS, zipN, refs, keepO, keepS, keysO, refsS, refsOB, cntN, headC, -getElem?_pos]
end
section
theorem okE_get (bs : List Int) (hr : byR bs) : okE (getE bs) := by
  have v : ∀ k, 0 ≤ vAt bs k 8 ∧ vAt bs k 8 < 18446744073709551616 := fun k => by
    have hv := val_range ((bs.drop k).take 8) (byR_take _ (byR_drop _ hr))
    have hl : ((bs.drop k).take 8).length ≤ 8 := by rw [List.length_take]; omega
    have hp : (256 : Int) ^ ((bs.drop k).take 8).length ≤ 18446744073709551616 := (by decide : ∀ m ≤ 8, (256 : Int) ^ m ≤ 18446744073709551616) _ hl
    exact ⟨hv.1, by unfold vAt; omega⟩
  exact ⟨(v 10).1, (v 10).2, (v 18).1, (v 18).2⟩
set_option maxHeartbeats 16000000 in
theorem V70 (N d : Nat) (bs : List Int) (hl : bs.length = 30) (hr : ∀ x ∈ bs, 0 ≤ x ∧ x ≤ 255) :
    sem tab (N + 100) (d + 5) 70 [.l false (byL bs)] [] = some (.tup [.agg (enC (cond (mayE (getE bs)) (getE bs) zeE)), .b (mayE (getE bs))], []) := by
  rw [sem_succ tab (N + 100) (d + 4) 70 m70 rfl]
  have h91 := V91 N (d + 2) bs szs (by decide) (by decide) (by omega) hr (by rw [hl]; rfl)
  have h68 := V68 N d (getE bs) (okE_get bs hr)
  have en := enc_get bs hl hr
  rw [en] at h68
  rw [cuts_szs] at h91
  have hk : kL szs = [[.i .i64 1], [.i .i64 4], [.i .i64 4], [.i .i64 1], [.i .i64 8], [.i .i64 8], [.i .i64 1], [.i .i64 2], [.i .i64 1]] := rfl
  rw [hk] at h91
  have cb := unB_by bs
  have bl := byL_len bs
  rw [hl] at bl
  have te : List.take 30 (byL bs) = byL bs := List.take_of_length_le (by omega)
  have r0 := vAt_range bs hr 0 1 (by decide)
  have r1 := vAt_range bs hr 1 4 (by decide)
  have r2 := vAt_range bs hr 5 4 (by decide)
  have r3 := vAt_range bs hr 9 1 (by decide)
  have r6 := vAt_range bs hr 26 1 (by decide)
  have r7 := vAt_range bs hr 27 2 (by decide)
  have r8 := vAt_range bs hr 29 1 (by decide)
  simp only [getE, enC] at h68 ⊢
  generalize vAt bs 0 1 = u0 at *
  generalize vAt bs 1 4 = u1 at *
  generalize vAt bs 5 4 = u2 at *
  generalize vAt bs 9 1 = u3 at *
  generalize vAt bs 10 8 = u4 at *
  generalize vAt bs 18 8 = u5 at *
  generalize vAt bs 26 1 = u6 at *
  generalize vAt bs 27 2 = u7 at *
  generalize vAt bs 29 1 = u8 at *
  have w0 : IntKind.i64.wrap u0 = u0 := w64 (by omega) (by omega)
  have w1 : IntKind.i64.wrap u1 = u1 := w64 (by omega) (by omega)
  have w2 : IntKind.i64.wrap u2 = u2 := w64 (by omega) (by omega)
  have w3 : IntKind.i64.wrap u3 = u3 := w64 (by omega) (by omega)
  have w6 : IntKind.i64.wrap u6 = u6 := w64 (by omega) (by omega)
  have w7 : IntKind.i64.wrap u7 = u7 := w64 (by omega) (by omega)
  have w8 : IntKind.i64.wrap u8 = u8 := w64 (by omega) (by omega)
  generalize chars bs = s at *
  generalize byL bs = b at *
  simp only [row] at h68 h91
  generalize mayE ⟨u0, u1, u2, u3, u4, u5, u6, u7, u8⟩ = m at *
  cases m <;> simp only [cond_true, cond_false] at h68 <;> simp -implicitDefEqProofs (maxSteps := 1000000) (disch := first | omega | rfl) [m70, zeE, h91, h68, cb, bl, te, w0, w1, w2, w3, w6, w7, w8, KS, getS, getO, gS, zipN, dropW, takeW, wds, stvs, sea, seaL, refs, refsL, isPureEls, isPures, isPure, noExt, noExts, noExtEls, cellsL, ren, renL, boxO, putW, putB, putB1, newOs, renO, noExtO, -getElem?_pos]
theorem L27' (M d : Nat) (ys : List Int) (h : ys.length ≤ 57600) (hb : ∀ n ∈ ys, 0 ≤ n ∧ n ≤ 255) : sem tab (M + 1000) (d + 5) 73 [.l false (byL ys)] [] = some (.agg [.blob 32 (uL (sumI' ys))], []) := L27 M d ys h hb
set_option maxHeartbeats 16000000 in
theorem V39 (M d : Nat) (h : List Int) (e : En) (hl : h.length = 32) (hR : byR h) (ho : okE e) : sem tab (M + 1000) (d + 6) 68 [.agg [.blob 32 (uL h)], .agg (enC e)] [] = some (.tup [.agg [.blob 32 (uL (linkC h e))], .b (mayE e)], []) := by
  rw [sem_succ tab (M + 1000) (d + 5) 68 m68 rfl]
  have h68 := V68 (M + 900) (d + 1) e ho
  rw [show M + 900 + 100 = M + 1000 by omega, show d + 1 + 4 = d + 5 by omega] at h68
  have h69 := L27' M d ([1] ++ h ++ encB e) (by simp [hl, encB_len]) (byR_app (byR_app (fun x hx => by simp at hx; omega) hR) (encB_R e))
  rw [← linkH] at h69
  have hb1 : byL ([1] ++ h ++ encB e) = [PV.i .u8 1] :: ((uL h).map (fun v => [v]) ++ byL (encB e)) := by
    rw [byL_app', byL_app', map_u]; rfl
  rw [hb1] at h69
  have be := byL_len (encB e)
  rw [encB_len] at be
  have te : List.take 30 (byL (encB e)) = byL (encB e) := List.take_of_length_le (by omega)
  have ul := uL_len h
  rw [hl] at ul
  have tu := take_u h hl
  have tu0 : (uL h).take 32 = uL h := by rw [← List.drop_zero (l := uL h)]; exact tu
  have mul : ((uL h).map (fun v => [v])).length = 32 := by rw [List.length_map, uL_len, hl]
  have muw : allW 1 ((uL h).map (fun v => [v])) = true := by rw [map_u]; exact allW_by _
  have muf : flatEls ((uL h).map (fun v => [v])) = true := by rw [map_u]; exact flat_by _
  have mt : List.take 32 ((uL h).map (fun v => [v])) = (uL h).map (fun v => [v]) := List.take_of_length_le (by omega)
  have mt2 : List.take 62 ((uL h).map (fun v => [v]) ++ byL (encB e)) = (uL h).map (fun v => [v]) ++ byL (encB e) := List.take_of_length_le (by rw [List.length_append]; omega)
  have we := allW_by (encB e)
  have fe := flat_by (encB e)
  have hz := hz32
  simp only [linkC]
  clear hb1
  cases hm : mayE e <;> rw [hm] at h68 <;> simp only [cond_true, cond_false, row] at h68 ⊢
  · rw [← hz]
    clear hz h69
    generalize uL h = u at *
    obtain ⟨e1, e2, e3, e4, e5, e6, e7, e8, e9⟩ := e
    simp only [enC] at h68 ⊢
    have hzl : (List.replicate 32 (PV.i IntKind.u8 0)).length = 32 := rfl
    generalize hz' : List.replicate 32 (PV.i .u8 0) = zz at *
    simp -implicitDefEqProofs (maxSteps := 1000000) (disch := first | omega | rfl) [m68, h68, hz', KV, KS, getS, getO, gS, zipN, dropW, takeW, wds, stvs, sea, seaL, refs, refsL, isPureEls, isPures, isPure, noExt, noExts, noExtEls, cellsL, ren, renL, boxO, putW, newOs, renO, noExtO, -getElem?_pos]
  · clear hz
    generalize uL (linkH h e) = q at *
    generalize uL h = u at *
    generalize byL (encB e) = b at *
    obtain ⟨e1, e2, e3, e4, e5, e6, e7, e8, e9⟩ := e
    simp only [enC] at h68 ⊢
    have hzl : (List.replicate 32 (PV.i IntKind.u8 0)).length = 32 := rfl
    generalize hz' : List.replicate 32 (PV.i .u8 0) = zz at *
    simp -implicitDefEqProofs (maxSteps := 1000000) (disch := first | omega | rfl) [m68, h68, h69, be, te, ul, tu0, mul, muw, muf, mt, mt2, we, fe, hz', k_cont_bs, KV, KS, getS, getO, gS, zipN, dropW, takeW, wds, stvs, sea, seaL, refs, refsL, isPureEls, isPures, isPure, noExt, noExts, noExtEls, cellsL, ren, renL, boxO, putW, newOs, renO, noExtO, two32, -getElem?_pos]
set_option maxHeartbeats 4000000 in
theorem V46n (M d : Nat) : sem tab (M + 1000) (d + 6) 47 [.l false []] [] = some (.agg [.blob 32 (uL h0)], []) := by
  rw [sem_succ tab (M + 1000) (d + 5) 47 m47 rfl]
  have h69 := L27' M d [0] (by decide) (fun x hx => by simp at hx; omega)
  rw [show sumI' [0] = h0 from rfl, show byL [0] = [[.i .u8 0]] from rfl] at h69
  have ul := uL_len h0
  rw [h0_len] at ul
  generalize uL h0 = u at *
  have hzl : (List.replicate 32 (PV.i IntKind.u8 0)).length = 32 := rfl
  generalize hz' : List.replicate 32 (PV.i .u8 0) = zz at *
  have hend : ∀ g, m47b0 (sem tab (M + 1000) (d + 5)) (M + 1000) [] g [(0, .l false []), (2, .p 80 0 0 0 none), (3, .p 88 0 0 0 none), (4, .i .i64 0)] [(80, { els := [[.blob 32 zz]], w := 32, pu := false, g := true, cap := none, ver := 0, fro := false }), (88, { els := [[.blob 32 u]], w := 32, pu := false, g := true, cap := none, ver := 0, fro := false })] = some (.agg [.blob 32 u], []) := by
    intro g
    simp -implicitDefEqProofs (maxSteps := 1000000) (disch := first | omega | rfl) [m47b0, KV, KS, getS, getO, gS, dropW, takeW, wds, stvs, sea, seaL, refs, refsL, isPureEls, isPures, isPure, noExt, noExts, noExtEls, cellsL, putW, w64, -getElem?_pos]
  simp -implicitDefEqProofs (maxSteps := 1000000) (disch := first | omega | rfl) [m47, hend, h69, hz', KS, getS, getO, gS, zipN, dropW, takeW, wds, stvs, refs, refsL, refsEls, refsO, isPureEls, isPures, isPure, noExt, noExts, noExtEls, cellsL, ren, renL, keepO, keepS, keysO, refsS, refsOB, cntN, headC, boxO, putW, -getElem?_pos]
end
section
def sl38p (xs : List (List PV)) (m i : Nat) : SL := [(0, .l false xs), (3, .p 88 0 0 0 none), (5, .sl 111 0 0 m), (6, .p 112 0 0 0 none), (7, .i .i64 i)]
set_option maxHeartbeats 16000000 in
theorem stepv38 (M d : Nat) (g : SL → OB → Option R) (xs : List (List PV)) (z : List PV) (out h : List Int) (i : Nat) (e : En) (hx : xs[i]? = some (enC e)) (hi : i < xs.length) (hn : xs.length < 1000) (ho : okE e) (hl : h.length = 32) (hR : byR h) (hz : z.length = 32) (hou : out.length ≤ 50000) :
    m51b0 (sem tab (M + 1000) (d + 6)) (M + 1000) [] g (sl38p xs out.length i) (ob32p z out (uL h)) = cond (mayE e) (g (sl38p xs (out ++ encB e ++ linkH h e).length (i + 1)) (ob32p z (out ++ encB e ++ linkH h e) (uL (linkH h e)))) (some (.tup [.sl 0 0 0 0, .agg [.blob 32 (uL zero32L)], .b false], [row [] 1 true])) := by
  have h39 := V39 M d h e hl hR ho
  have h68 := V68 (M + 900) (d + 2) e ho
  rw [show M + 900 + 100 = M + 1000 by omega, show d + 2 + 4 = d + 6 by omega] at h68
  have w2 := w64n (i := i) (by omega)
  have ci : (i : Int) < xs.length := by omega
  have lo := byL_len out
  have be := byL_len (encB e)
  rw [encB_len] at be
  have te : List.take 30 (byL (encB e)) = byL (encB e) := List.take_of_length_le (by omega)
  have ul := uL_len h
  rw [hl] at ul
  have ql := uL_len (linkH h e)
  rw [linkH_len] at ql
  have tu := take_u (linkH h e) (linkH_len h e)
  have tu0 : (uL (linkH h e)).take 32 = uL (linkH h e) := by rw [← List.drop_zero (l := uL (linkH h e))]; exact tu
  have all : (out ++ encB e ++ linkH h e).length = out.length + 30 + 32 := by simp [encB_len, linkH_len, Nat.add_assoc]
  have hb : byL (out ++ encB e ++ linkH h e) = byL out ++ (byL (encB e) ++ (uL (linkH h e)).map (fun v => [v])) := by
    rw [byL_app', byL_app', map_u, List.append_assoc]
  have mul : ((uL (linkH h e)).map (fun v => [v])).length = 32 := by rw [List.length_map, uL_len, linkH_len]
  have muw : allW 1 ((uL (linkH h e)).map (fun v => [v])) = true := by rw [map_u]; exact allW_by _
  have muf : flatEls ((uL (linkH h e)).map (fun v => [v])) = true := by rw [map_u]; exact flat_by _
  have mt : List.take 32 ((uL (linkH h e)).map (fun v => [v])) = (uL (linkH h e)).map (fun v => [v]) := List.take_of_length_le (by omega)
  have we := allW_by (encB e)
  have fe := flat_by (encB e)
  have tk0 : List.take out.length (byL out) = byL out := List.take_of_length_le (by omega)
  have le1 : out.length + 30 ≤ 4294967296 := by omega
  have le2 : ¬ out.length + 30 ≤ out.length := by omega
  have le3 : out.length + 30 + 32 ≤ 4294967296 := by omega
  have le4 : ¬ out.length + 30 + 32 ≤ out.length + 30 := by omega
  have tk2 : List.take (out.length + 30) (byL out ++ byL (encB e)) = byL out ++ byL (encB e) := List.take_of_length_le (by rw [List.length_append]; omega)
  simp only [sl38p, ob32p, all, hb]
  clear hb all
  simp only [linkC] at h39
  generalize byL (encB e) = b at *
  generalize byL out = o at *
  generalize uL h = u at *
  have hz0 : List.replicate 32 (PV.i .u8 0) = uL zero32L := by simp [uL, zero32L]
  have hzl : (List.replicate 32 (PV.i IntKind.u8 0)).length = 32 := rfl
  obtain ⟨e1, e2, e3, e4, e5, e6, e7, e8, e9⟩ := e
  simp only [enC] at h39 h68 hx
  cases hm : mayE ⟨e1, e2, e3, e4, e5, e6, e7, e8, e9⟩ <;> rw [hm] at h68 h39 <;> simp only [cond_true, cond_false, row] at h68 h39 ⊢
  · rw [← hz0] at h39 ⊢
    clear hz0
    generalize hz' : List.replicate 32 (PV.i .u8 0) = zz at *
    simp -implicitDefEqProofs (maxSteps := 1000000) (disch := first | omega | rfl) [m51b0, hx, ci, w2, hz', h68, h39, k_fin3, box, KV, KS, getS, getO, gS, dropW, takeW, wds, sea, seaL, refs, refsL, noExt, noExts, ren, renL, cntN, boxO, row, putW, newOs, renO, noExtO, -getElem?_pos]
  · clear hz0
    generalize uL (linkH h _) = q at *
    generalize hz' : List.replicate 32 (PV.i .u8 0) = zz at *
    simp -implicitDefEqProofs (maxSteps := 1000000) (disch := first | omega | rfl) [m51b0, hx, ci, w2, hz', h68, h39, be, te, ql, tu0, mul, muw, muf, we, fe, tk0, le1, le2, le3, le4, tk2, lo, k_cont_bs, box, KV, KS, getS, getO, gS, dropW, takeW, wds, refs, refsL, refsEls, refsO, noExt, noExts, ren, renL, keepO, keepS, keysO, refsS, refsOB, cntN, headC, setS, boxO, putW, newOs, renO, noExtO, two32, -getElem?_pos]
set_option maxHeartbeats 8000000 in
theorem endv38 (Φ : Sem') (N : Nat) (g : SL → OB → Option R) (xs : List (List PV)) (z : List PV) (out h : List Int) (hl : h.length = 32) (hz : z.length = 32) :
    m51b0 Φ N [] g (sl38p xs out.length xs.length) (ob32p z out (uL h)) = yesPut out h := by
  have ul := uL_len h
  rw [hl] at ul
  have lo := byL_len out
  have tk0 : List.take out.length (byL out) = byL out := List.take_of_length_le (by omega)
  simp only [sl38p, ob32p, yesPut]
  generalize byL out = o at *
  generalize uL h = u at *
  simp -implicitDefEqProofs (maxSteps := 1000000) (disch := first | omega | rfl) [m51b0, lo, tk0, k_fin3, box, KV, KS, getS, getO, gS, dropW, takeW, wds, sea, seaL, refs, refsL, cntN, boxO, row, putW, -getElem?_pos]
theorem loopv38 (M d : Nat) (l : List En) (z : List PV) (hl : l.length ≤ 264) (ho : ∀ e ∈ l, okE e) (hz : z.length = 32) : ∀ (k i e : Nat) (out h : List Int), i + k = l.length → h.length = 32 → byR h → out.length = 62 * i →
    loopC (m51b0 (sem tab (M + 1000) (d + 6)) (M + 1000) []) (e + 1 + k) (sl38p (enL l) out.length i) (ob32p z out (uL h)) = cond ((l.drop i).all mayE) (yesPut (out ++ recL h (l.drop i)) (hdL h (l.drop i))) noPut := by
  intro k
  induction k with
  | zero =>
    intro i e out h hi hh hR hou
    have : i = (enL l).length := by rw [enL_len]; omega
    subst this
    rw [Nat.add_zero, k_loop, endv38 _ _ _ (enL l) z out h hh hz, enL_len, List.drop_length]
    simp [recL, hdL]
  | succ k ih =>
    intro i e out h hi hh hR hou
    have hi' : i < l.length := by omega
    rw [← Nat.add_assoc, k_loop, stepv38 M d _ (enL l) z out h i l[i] (enL_get l i hi') (by rw [enL_len]; exact hi') (by rw [enL_len]; omega) (ho _ (List.getElem_mem hi')) hh hR hz (by omega), List.drop_eq_getElem_cons hi', List.all_cons]
    cases hm : mayE l[i]
    · rfl
    · rw [cond_true, ih (i + 1) e _ _ (by omega) (linkH_len _ _) (linkH_R _ hR) (by simp [encB_len, linkH_len]; omega)]
      simp [recL, hdL, List.append_assoc]
set_option maxHeartbeats 8000000 in
theorem V38 (M d : Nat) (l : List En) (hl : l.length ≤ 264) (ho : ∀ e ∈ l, okE e) : sem tab (M + 1000) (d + 7) 51 [.l false (enL l)] [] = cond (l.all mayE) (yesPut (recL h0 l) (hdL h0 l)) noPut := by
  rw [sem_succ tab (M + 1000) (d + 6) 51 m51 rfl]
  have h46 := V46n M d
  have hz : (List.replicate 32 (PV.i IntKind.u8 0)).length = 32 := rfl
  have h := loopv38 M d l (List.replicate 32 (.i .u8 0)) hl ho hz l.length 0 (M + 999 - l.length) [] h0 (by omega) h0_len h0_R rfl
  rw [show M + 999 - l.length + 1 + l.length = M + 1000 by omega, List.drop_zero, List.nil_append] at h
  have hn := enL_len l
  have ul := uL_len h0
  rw [h0_len] at ul
  have ng : ¬ (264 : Int) < l.length := by omega
  have ng' : ¬ (l.length : Int) > 264 := by omega
  rw [← h]
  rw [← hn] at ng ng'
  simp only [sl38p, ob32p, List.length_nil]
  simp only [show byL [] = [] from rfl]
  generalize uL h0 = u at *
  generalize hz' : List.replicate 32 (PV.i .u8 0) = zz at *
  clear h
  generalize enL l = a at *
  simp -implicitDefEqProofs (maxSteps := 1000000) (disch := first | omega | rfl) [m51, h46, hz', ng, box, KS, getS, getO, gS, zipN, dropW, takeW, wds, refs, refsL, refsEls, refsO, noExt, noExts, ren, renL, keepO, keepS, keysO, refsS, refsOB, cntN, headC, setS, boxO, row, putW, -getElem?_pos]
def slRd (b : List (List PV)) (m : Nat) : SL := [(0, .l false b), (3, .p 88 0 0 0 none), (5, .sl 111 0 0 m), (6, .p 112 0 0 0 none)]
def obRd (z h : List PV) (xs : List (List PV)) : OB := [(111, row xs 9 true), (88, box [.blob 32 z] 32), (112, box [.blob 32 h] 32)]
set_option maxHeartbeats 16000000 in
theorem stepv40 (M d : Nat) (g : SL → OB → Option R) (bs : List Int) (z : List PV) (h : List Int) (l : List En) (hl : h.length = 32) (hR : byR h) (hz : z.length = 32) (hm : l.length < 264) (hb : bs.length ≤ 100000) (hr : byR bs) :
    m42b0 (sem tab (M + 1000) (d + 6)) (M + 1000) [] g (slRd (byL bs) l.length) (obRd z (uL h) (enL l)) = cond (decide ((bs.drop (62 * l.length)).length < 62)) (outR h l) (cond (mayE (frE (bs.drop (62 * l.length))) && decide (chars (linkH h (frE (bs.drop (62 * l.length)))) = chars (tgE (bs.drop (62 * l.length))))) (g (slRd (byL bs) (l ++ [frE (bs.drop (62 * l.length))]).length) (obRd z (uL (linkH h (frE (bs.drop (62 * l.length))))) (enL (l ++ [frE (bs.drop (62 * l.length))])))) (outR h l)) := by
  have el := enL_len l
  have bl := byL_len bs
  have dl : (bs.drop (62 * l.length)).length = bs.length - 62 * l.length := List.length_drop
  have ul := uL_len h
  rw [hl] at ul
  have c0 : (l.length : Int) < 264 := by omega
  have w1 : IntKind.i64.wrap (62 * (l.length : Int)) = ((62 * l.length : Nat) : Int) := by rw [w64 (by omega) (by omega)]; omega
  have w2 : IntKind.i64.wrap ((bs.length : Int) - ((62 * l.length : Nat) : Int)) = (bs.length : Int) - ((62 * l.length : Nat) : Int) := w64 (by omega) (by omega)
  have t9 : List.take l.length (enL l) = enL l := List.take_of_length_le (by omega)
  have hzl : (List.replicate 32 (PV.i IntKind.u8 0)).length = 32 := rfl
  by_cases c : (bs.drop (62 * l.length)).length < 62
  · rw [decide_eq_true c, cond_true]
    have c1 : (bs.length : Int) - ((62 * l.length : Nat) : Int) < 62 := by omega
    rw [← bl] at c1 w2
    simp only [slRd, obRd, outR]
    generalize 62 * l.length = n at *
    generalize byL bs = b at *
    generalize uL h = u at *
    generalize enL l = a at *
    simp -implicitDefEqProofs (maxSteps := 1000000) (disch := first | omega | rfl) [m42b0, c0, c1, w1, w2, t9, el, k_dis, k_fin3, box, KS, getS, getO, gS, dropW, takeW, wds, stvs, sea, seaL, refs, refsL, isPureEls, noExtEls, cellsL, cntN, boxO, row, putW, w64, -getElem?_pos]
  · rw [decide_eq_false c, cond_false]
    have c1 : ¬ ((bs.length : Int) - ((62 * l.length : Nat) : Int) < 62) := by omega
    have f30 : ((bs.drop (62 * l.length)).take 30).length = 30 := by rw [List.length_take]; omega
    have h70 := V70 (M + 900) (d + 1) ((bs.drop (62 * l.length)).take 30) f30 (byR_take _ (byR_drop _ hr))
    rw [show M + 900 + 100 = M + 1000 by omega, show d + 1 + 5 = d + 6 by omega, show getE ((bs.drop (62 * l.length)).take 30) = frE (bs.drop (62 * l.length)) from rfl] at h70
    have ho : okE (frE (bs.drop (62 * l.length))) := okE_get _ (byR_take _ (byR_drop _ hr))
    have oz : okE zeE := ⟨by decide, by decide, by decide, by decide⟩
    have hc : ∃ ec : En, ec = cond (mayE (frE (bs.drop (62 * l.length)))) (frE (bs.drop (62 * l.length))) zeE ∧ okE ec ∧ mayE ec = true := by
      cases hme : mayE (frE (bs.drop (62 * l.length)))
      · exact ⟨zeE, rfl, oz, by decide⟩
      · exact ⟨_, rfl, ho, hme⟩
    obtain ⟨ec, hec, oc, mc⟩ := hc
    have h39 := V39 M d h ec hl hR oc
    rw [linkC, mc, cond_true] at h39
    rw [← hec] at h70
    have s1 : List.drop (62 * l.length) (List.take (62 * l.length + 30) (byL bs)) = byL ((bs.drop (62 * l.length)).take 30) := by
      rw [byL_take, byL_drop, List.drop_take, Nat.add_sub_cancel_left]
    have s2 : List.drop (62 * l.length + 30) (List.take (62 * l.length + 62) (byL bs)) = byL (tgE (bs.drop (62 * l.length))) := by
      rw [byL_take, byL_drop, tgE, List.drop_take, List.drop_take, List.drop_drop, show 62 * l.length + 62 - (62 * l.length + 30) = 62 - 30 by omega]
    have c2 := unB_by (tgE (bs.drop (62 * l.length)))
    have c3 : unB ((uL (linkH h ec)).map fun v => [v]) = some (chars (linkH h ec)) := by rw [map_u]; exact unB_by _
    have ql := uL_len (linkH h ec)
    rw [linkH_len] at ql
    have tu := take_u (linkH h ec) (linkH_len h ec)
    have tu0 : (uL (linkH h ec)).take 32 = uL (linkH h ec) := by rw [← List.drop_zero (l := uL (linkH h ec))]; exact tu
    have wb := allW_by bs
    have w3 : IntKind.i64.wrap (((62 * l.length : Nat) : Int) + 30) = ((62 * l.length : Nat) : Int) + 30 := w64 (by omega) (by omega)
    have w4 : IntKind.i64.wrap (((62 * l.length : Nat) : Int) + 62) = ((62 * l.length : Nat) : Int) + 62 := w64 (by omega) (by omega)
    have n1 : (((62 * l.length : Nat) : Int) + 30).toNat = 62 * l.length + 30 := by omega
    have n2 : (((62 * l.length : Nat) : Int) + 62).toNat = 62 * l.length + 62 := by omega
    have n3 : (0 : Int) ≤ ((62 * l.length : Nat) : Int) := by omega
    have n4 : (0 : Int) ≤ ((62 * l.length : Nat) : Int) + 30 := by omega
    have n5 : ((62 * l.length : Nat) : Int) ≤ ((62 * l.length : Nat) : Int) + 30 := by omega
    have n6 : ((62 * l.length : Nat) : Int) + 30 ≤ ((62 * l.length : Nat) : Int) + 62 := by omega
    have n7 : ((62 * l.length : Nat) : Int) + 30 ≤ (bs.length : Int) := by omega
    have n8 : ((62 * l.length : Nat) : Int) + 62 ≤ (bs.length : Int) := by omega
    have le1 : l.length + 1 ≤ 4294967296 := by omega
    have le2 : ¬ l.length + 1 ≤ l.length := by omega
    have wl := allW_en l
    rw [← bl] at c1 w2 n7 n8
    cases hme : mayE (frE (bs.drop (62 * l.length)))
    · rw [hme] at h70
      simp only [Bool.false_and, cond_false, slRd, obRd, outR]
      clear hec
      generalize byL (tgE (bs.drop (62 * l.length))) = tg at *
      generalize byL ((bs.drop (62 * l.length)).take 30) = fr at *
      generalize 62 * l.length = n at *
      generalize byL bs = b at *
      generalize uL (linkH h ec) = q at *
      generalize uL h = u at *
      generalize enL l = a at *
      obtain ⟨e1, e2, e3, e4, e5, e6, e7, e8, e9⟩ := ec
      simp only [enC] at h39 h70
      generalize hz' : List.replicate 32 (PV.i .u8 0) = zz at *
      simp -implicitDefEqProofs (maxSteps := 1000000) (disch := first | omega | rfl) [m42b0, h39, h70, c0, c1, w1, w2, w3, n1, n3, n5, n7, s1, t9, el, wb, hz', k_dis, k_fin3, box, KS, getS, getO, gS, dropW, takeW, wds, stvs, sea, seaL, refs, refsL, isPureEls, noExt, noExts, noExtEls, cellsL, ren, renL, cntN, boxO, row, putW, -getElem?_pos]
    · rw [hme, cond_true] at hec
      subst hec
      rw [hme] at h70
      simp only [Bool.true_and]
      generalize frE (bs.drop (62 * l.length)) = e at *
      have ea : enL (l ++ [e]) = enL l ++ [enC e] := by simp [enL]
      have la : (l ++ [e]).length = l.length + 1 := by simp
      simp only [slRd, obRd, outR, ea, la]
      clear ea la
      generalize chars (linkH h e) = p at *
      generalize chars (tgE (bs.drop (62 * l.length))) = p' at *
      generalize byL (tgE (bs.drop (62 * l.length))) = tg at *
      generalize byL ((bs.drop (62 * l.length)).take 30) = fr at *
      generalize 62 * l.length = n at *
      generalize byL bs = b at *
      generalize uL (linkH h e) = q at *
      generalize uL h = u at *
      generalize enL l = a at *
      obtain ⟨e1, e2, e3, e4, e5, e6, e7, e8, e9⟩ := e
      simp only [enC] at h39 h70 ⊢
      generalize hz' : List.replicate 32 (PV.i .u8 0) = zz at *
      by_cases hp : p = p'
      · rw [decide_eq_true hp]
        subst hp
        simp -implicitDefEqProofs (maxSteps := 1000000) (disch := first | omega | rfl) [m42b0, h39, h70, c0, c1, c2, c3, w1, w2, w3, w4, n1, n2, n3, n4, n5, n6, n7, n8, s1, s2, t9, el, ql, tu0, wb, le1, le2, hz', k_dis, k_fin3, box, KV, KS, getS, getO, gS, dropW, takeW, wds, stvs, sea, seaL, refs, refsL, refsEls, refsO, isPureEls, isPures, isPure, noExt, noExts, noExtEls, cellsL, ren, renL, keepO, keepS, keysO, refsS, refsOB, cntN, headC, setS, boxO, row, putW, two32, -getElem?_pos]
      · rw [decide_eq_false hp]
        simp -implicitDefEqProofs (maxSteps := 1000000) (disch := first | omega | rfl) [m42b0, h39, h70, c0, c1, c2, c3, hp, w1, w2, w3, w4, n1, n2, n3, n4, n5, n6, n7, n8, s1, s2, t9, el, ql, tu0, wb, hz', k_dis, k_fin3, box, KV, KS, getS, getO, gS, dropW, takeW, wds, stvs, sea, seaL, refs, refsL, isPureEls, isPures, isPure, noExt, noExts, noExtEls, cellsL, ren, renL, cntN, boxO, row, putW, two32, -getElem?_pos]
set_option maxHeartbeats 8000000 in
theorem endv40 (Φ : Sem') (N : Nat) (g : SL → OB → Option R) (b : List (List PV)) (z : List PV) (h : List Int) (l : List En) (hl : h.length = 32) (hz : z.length = 32) (hm : l.length = 264) :
    m42b0 Φ N [] g (slRd b l.length) (obRd z (uL h) (enL l)) = outR h l := by
  have el := enL_len l
  have ul := uL_len h
  rw [hl] at ul
  have c0 : ¬ (l.length : Int) < 264 := by omega
  have w1 : IntKind.i64.wrap (62 * (l.length : Int)) = ((62 * l.length : Nat) : Int) := by rw [w64 (by omega) (by omega)]; omega
  have t9 : List.take l.length (enL l) = enL l := List.take_of_length_le (by omega)
  simp only [slRd, obRd, outR]
  generalize 62 * l.length = n at *
  generalize uL h = u at *
  generalize enL l = a at *
  simp -implicitDefEqProofs (maxSteps := 1000000) (disch := first | omega | rfl) [m42b0, c0, w1, t9, el, k_dis, k_fin3, box, KS, getS, getO, gS, dropW, takeW, wds, stvs, sea, seaL, refs, refsL, isPureEls, noExtEls, cellsL, cntN, boxO, row, putW, -getElem?_pos]
theorem loopv40 (M d : Nat) (bs : List Int) (z : List PV) (hz : z.length = 32) (hb : bs.length ≤ 100000) (hr : byR bs) : ∀ (k e : Nat) (h : List Int) (l : List En), l.length + k = 264 → h.length = 32 → byR h →
    loopC (m42b0 (sem tab (M + 1000) (d + 6)) (M + 1000) []) (e + 1 + k) (slRd (byL bs) l.length) (obRd z (uL h) (enL l)) = outR (headS h (goodS (stepsL k h (bs.drop (62 * l.length))))) (l ++ (goodS (stepsL k h (bs.drop (62 * l.length)))).map (·.1)) := by
  intro k
  induction k with
  | zero =>
    intro e h l hk hh hR
    rw [Nat.add_zero, k_loop, endv40 _ _ _ _ z h l hh hz (by omega)]
    simp [stepsL, goodS, headS]
  | succ k ih =>
    intro e h l hk hh hR
    rw [← Nat.add_assoc, k_loop, stepv40 M d _ bs z h l hh hR hz (by omega) hb hr, stepsL]
    by_cases c : (bs.drop (62 * l.length)).length < 62
    · rw [decide_eq_true c, cond_true, if_pos c]
      simp [goodS, headS]
    · rw [decide_eq_false c, cond_false, if_neg c]
      cases hm : mayE (frE (bs.drop (62 * l.length)))
      · simp [goodS, headS]
      · cases hs : decide (chars (linkH h (frE (bs.drop (62 * l.length)))) = chars (tgE (bs.drop (62 * l.length))))
        · simp [goodS, headS]
        · rw [Bool.and_self, cond_true, ih e _ (l ++ [frE (bs.drop (62 * l.length))]) (by simp; omega) (linkH_len _ _) (linkH_R _ hR)]
          have : bs.drop (62 * (l ++ [frE (bs.drop (62 * l.length))]).length) = (bs.drop (62 * l.length)).drop 62 := by
            rw [List.drop_drop, List.length_append, List.length_singleton]; congr 1
          rw [this]
          simp [goodS, headS]
set_option maxHeartbeats 8000000 in
theorem V40r (M d : Nat) (bs : List Int) (hb : bs.length ≤ 100000) (hr : byR bs) : sem tab (M + 1000) (d + 7) 42 [.l false (byL bs)] [] = outR (rdH bs) (rdL bs) := by
  rw [sem_succ tab (M + 1000) (d + 6) 42 m42 rfl]
  have h46 := V46n M d
  have hzl : (List.replicate 32 (PV.i IntKind.u8 0)).length = 32 := rfl
  have h := loopv40 M d bs (List.replicate 32 (.i .u8 0)) hzl hb hr 264 (M + 735) h0 [] (by simp) h0_len h0_R
  rw [show M + 735 + 1 + 264 = M + 1000 by omega, List.length_nil, Nat.mul_zero, List.drop_zero, List.nil_append] at h
  rw [show outR (headS h0 (goodS (stepsL 264 h0 bs))) ((goodS (stepsL 264 h0 bs)).map (·.1)) = outR (rdH bs) (rdL bs) from rfl] at h
  rw [← h]
  clear h
  have ul := uL_len h0
  rw [h0_len] at ul
  simp only [slRd, obRd, show enL [] = [] from rfl]
  generalize uL h0 = u at *
  generalize hz' : List.replicate 32 (PV.i .u8 0) = zz at *
  generalize byL bs = b at *
  simp -implicitDefEqProofs (maxSteps := 1000000) (disch := first | omega | rfl) [m42, h46, hz', box, KS, getS, getO, gS, zipN, dropW, takeW, wds, refs, refsL, refsEls, refsO, noExt, noExts, ren, renL, keepO, keepS, keysO, refsS, refsOB, cntN, headC, setS, boxO, row, putW, -getElem?_pos]
end
section
theorem R41 (N d : Nat) (s : So) : sem tab N (d + 1) 41 [.agg (soC false s)] [] = some (.b (mayS s), []) := by
  rw [sem_succ tab N d 41 m41 rfl]
  obtain ⟨c, D, u⟩ := s
  have bl := byL_len D
  simp only [soC, mayS]
  rw [← bl]
  generalize byL D = b at *
  by_cases h1 : 0 ≤ c
  · by_cases h2 : c ≤ 16384
    · by_cases h3 : (b.length : Int) ≤ c
      · by_cases h4 : 0 ≤ u
        · by_cases h5 : u ≤ (b.length : Int)
          all_goals simp -implicitDefEqProofs (maxSteps := 1000000) (disch := first | omega | rfl) [m41, h1, h2, h3, h4, h5, KS, getS, getO, gS, zipN, dropW, wds, refs, boxO, -getElem?_pos]
        · simp -implicitDefEqProofs (maxSteps := 1000000) (disch := first | omega | rfl) [m41, h1, h2, h3, h4, KS, getS, getO, gS, zipN, dropW, wds, refs, boxO, -getElem?_pos]
      · simp -implicitDefEqProofs (maxSteps := 1000000) (disch := first | omega | rfl) [m41, h1, h2, h3, KS, getS, getO, gS, zipN, dropW, wds, refs, boxO, -getElem?_pos]
    · simp -implicitDefEqProofs (maxSteps := 1000000) (disch := first | omega | rfl) [m41, h1, h2, KS, getS, getO, gS, zipN, dropW, wds, refs, boxO, -getElem?_pos]
  · simp -implicitDefEqProofs (maxSteps := 1000000) (disch := first | omega | rfl) [m41, h1, KS, getS, getO, gS, zipN, dropW, wds, refs, boxO, -getElem?_pos]
theorem R18 (N d : Nat) (s t : So) : sem tab N (d + 2) 18 [.agg (soC false s), .agg (soC false t)] [] = some (.b (sameS s t), []) := by
  rw [sem_succ tab N (d + 1) 18 m18 rfl]
  obtain ⟨c, D, u⟩ := s
  obtain ⟨c', D', u'⟩ := t
  have b1 := unB_by D
  have b2 := unB_by D'
  simp only [soC, sameS]
  generalize chars D = x at *
  generalize chars D' = y at *
  generalize byL D = b at *
  generalize byL D' = b' at *
  cases h1 : (c == c')
  · simp -implicitDefEqProofs (maxSteps := 1000000) (disch := first | omega | rfl) [m18, h1, KS, getS, getO, gS, zipN, dropW, wds, refs, boxO, -getElem?_pos]
  · cases h2 : (u == u')
    · simp -implicitDefEqProofs (maxSteps := 1000000) (disch := first | omega | rfl) [m18, h1, h2, KS, getS, getO, gS, zipN, dropW, wds, refs, boxO, -getElem?_pos]
    · simp -implicitDefEqProofs (maxSteps := 1000000) (disch := first | omega | rfl) [m18, h1, h2, b1, b2, KS, getS, getO, gS, zipN, dropW, wds, refs, boxO, -getElem?_pos]
theorem R46 (N d : Nat) (r : Int) : sem tab N (d + 2) 46 [.i .i64 r] [] = cond (mayS (r, [], 0)) (some (.tup [.agg (soC true (r, [], 0)), .b true], [])) (some (.tup [.agg (soC true (0, [], 0)), .b false], [])) := by
  rw [sem_succ tab N (d + 1) 46 m46 rfl]
  have e : mayS (r, [], 0) = (decide (0 ≤ r) && decide (r ≤ 16384)) := by
    simp only [mayS, List.length_nil]
    by_cases h1 : 0 ≤ r <;> by_cases h2 : r ≤ 16384 <;> simp [h1, h2]
  rw [e]
  by_cases h1 : 0 ≤ r
  · have h1' : ¬ r < 0 := by omega
    by_cases h2 : r ≤ 16384
    · have h2' : ¬ 16384 < r := by omega
      simp -implicitDefEqProofs (maxSteps := 1000000) (disch := first | omega | rfl) [m46, h1, h1', h2, h2', soC, byL, KS, getS, getO, gS, zipN, dropW, takeW, wds, sea, seaL, refs, refsL, boxO, putW, putB, -getElem?_pos]
    · have h2' : 16384 < r := by omega
      simp -implicitDefEqProofs (maxSteps := 1000000) (disch := first | omega | rfl) [m46, h1, h1', h2, h2', soC, byL, KS, getS, getO, gS, zipN, dropW, takeW, wds, sea, seaL, refs, refsL, boxO, putW, putB, -getElem?_pos]
  · have h1' : r < 0 := by omega
    simp -implicitDefEqProofs (maxSteps := 1000000) (disch := first | omega | rfl) [m46, h1, h1', soC, byL, KS, getS, getO, gS, zipN, dropW, takeW, wds, sea, seaL, refs, refsL, boxO, putW, putB, -getElem?_pos]
def stQz (g : Bool) (s : So) (e : Int) : Option R := some (.tup [.agg (soC g s), .i .i64 e], [])
set_option maxHeartbeats 8000000 in
theorem R38 (N d : Nat) (s : So) (bs : List Int) (h : s.2.1.length ≤ 50000) (hb : bs.length = 62) (hm : mayS s = true) (hf : ((s.2.1.length : Int) + 62 ≤ s.1)) : sem tab N (d + 2) 38 [.agg (soC false s), .l false (byL bs)] [] = stR (s.1, s.2.1 ++ bs, s.2.2) 0 := by
  rw [sem_succ tab N (d + 1) 38 m38 rfl]
  have h41 := R41 N d s
  rw [hm] at h41
  obtain ⟨c, D, u⟩ := s
  simp only [mayS, Bool.and_eq_true, decide_eq_true_eq] at hm
  simp only at h hf
  have bl := byL_len D
  have ql := byL_len bs
  rw [hb] at ql
  have w1 : IntKind.i64.wrap (c - (D.length : Int)) = c - (D.length : Int) := w64 (by omega) (by omega)
  have we := allW_by D
  have fe := flat_by D
  have wq := allW_by bs
  have fq := flat_by bs
  simp only [stR, soC, byL_app'] at h41 ⊢
  have c1' : ¬ c - (D.length : Int) < 62 := by omega
  rw [← bl] at c1' w1
  have le0 : (byL D).length ≤ 4294967296 := by omega
  have le1 : (byL D).length + 62 ≤ 4294967296 := by omega
  have le2 : ¬ (byL D).length + 62 ≤ (byL D).length := by omega
  have tk : List.take (byL D).length (byL D) = byL D := List.take_length
  have tk2 : List.take ((byL D).length + 62) (byL D ++ byL bs) = byL D ++ byL bs := List.take_of_length_le (by rw [List.length_append]; omega)
  generalize byL D = b at *
  generalize byL bs = q at *
  simp -implicitDefEqProofs (maxSteps := 1000000) (disch := first | omega | rfl) [m38, h41, w1, c1', we, fe, wq, fq, ql, le0, le1, le2, tk, tk2, k_dis, KS, getS, getO, gS, zipN, dropW, takeW, wds, sea, seaL, refs, refsL, noExt, ren, boxO, row, putW, putB, putB1, two32, -getElem?_pos]
set_option maxHeartbeats 8000000 in
theorem R39 (N d : Nat) (s : So) (hm : mayS s = true) : sem tab N (d + 2) 39 [.agg (soC false s)] [] = stQz false (s.1, s.2.1, s.2.1.length) 0 := by
  rw [sem_succ tab N (d + 1) 39 m39 rfl]
  have h41 := R41 N d s
  rw [hm] at h41
  obtain ⟨c, D, u⟩ := s
  have bl := byL_len D
  simp only [stQz, soC] at h41 ⊢
  rw [← bl]
  generalize byL D = b at *
  simp -implicitDefEqProofs (maxSteps := 1000000) (disch := first | omega | rfl) [m39, h41, KS, getS, getO, gS, zipN, dropW, takeW, wds, sea, seaL, refs, refsL, noExt, ren, boxO, putW, putB, putB1, -getElem?_pos]
set_option maxHeartbeats 8000000 in
theorem R43 (N d : Nat) (s : So) (n : Int) (hm : mayS s = true) (h0 : 0 ≤ n) (hn : n ≤ s.2.1.length) : sem tab N (d + 2) 43 [.agg (soC false s), .i .i64 n] [] = stQz false (s.1, s.2.1.take n.toNat, n) 0 := by
  rw [sem_succ tab N (d + 1) 43 m43 rfl]
  have h41 := R41 N d s
  rw [hm] at h41
  obtain ⟨c, D, u⟩ := s
  simp only at hn
  have bl := byL_len D
  have w := allW_by D
  have bt := byL_take D n.toNat
  have c1 : ¬ n < 0 := by omega
  simp only [stQz, soC] at h41 ⊢
  rw [← bt]
  rw [← bl] at hn
  have c2 : ¬ ((byL D).length : Int) < n := by omega
  clear bt
  generalize byL D = b at *
  simp -implicitDefEqProofs (maxSteps := 1000000) (disch := first | omega | rfl) [m43, h41, w, c1, c2, h0, hn, KS, getS, getO, gS, zipN, dropW, takeW, wds, sea, seaL, refs, refsL, noExt, ren, boxO, putW, putB, putB1, -getElem?_pos]
set_option maxHeartbeats 8000000 in
theorem R50 (N d : Nat) (s : So) (k : Int) (hm : mayS s = true) : sem tab N (d + 2) 50 [.agg (soC false s), .i .i64 k] [] = some (.agg (soC false (crS s k)), []) := by
  rw [sem_succ tab N (d + 1) 50 m50 rfl]
  have h41 := R41 N d s
  rw [hm] at h41
  rw [crS, hm, cond_true]
  obtain ⟨c, D, u⟩ := s
  simp only [mayS, Bool.and_eq_true, decide_eq_true_eq] at hm
  simp only
  have bl := byL_len D
  have w := allW_by D
  have w1 : IntKind.i64.wrap ((D.length : Int) - u) = (D.length : Int) - u := w64 (by omega) (by omega)
  have n1 : ¬ (D.length : Int) - u < 0 := by omega
  obtain ⟨m, hmm⟩ : ∃ m, u + max 0 (min k ((D.length : Int) - u)) = m := ⟨_, rfl⟩
  rw [hmm]
  have m0 : 0 ≤ m := by omega
  have m1 : m ≤ (D.length : Int) := by omega
  have bt := byL_take D m.toNat
  simp only [soC] at h41 ⊢
  rw [← bt]
  rw [← bl] at w1 n1 m1
  have eb : (D.length : Int) = ((byL D).length : Int) := by rw [bl]
  rw [eb] at hmm hm
  clear bt bl eb
  generalize byL D = b at *
  by_cases c1 : k < 0
  · have e1 : IntKind.i64.wrap (u + 0) = m := by rw [w64 (by omega) (by omega)]; omega
    have e2 : u = m := by omega
    subst e2
    simp -implicitDefEqProofs (maxSteps := 1000000) (disch := first | omega | rfl) [m50, h41, w, w1, n1, m0, m1, c1, KS, getS, getO, gS, zipN, dropW, takeW, wds, sea, seaL, refs, refsL, noExt, ren, boxO, putW, putB, putB1, w64, -getElem?_pos]
  · by_cases c2 : (b.length : Int) - u < k
    · have e1 : IntKind.i64.wrap (u + ((b.length : Int) - u)) = m := by rw [w64 (by omega) (by omega)]; omega
      simp -implicitDefEqProofs (maxSteps := 1000000) (disch := first | omega | rfl) [m50, h41, w, w1, m0, m1, c1, c2, e1, KS, getS, getO, gS, zipN, dropW, takeW, wds, sea, seaL, refs, refsL, noExt, ren, boxO, putW, putB, putB1, -getElem?_pos]
    · have e1 : IntKind.i64.wrap (u + k) = m := by rw [w64 (by omega) (by omega)]; omega
      simp -implicitDefEqProofs (maxSteps := 1000000) (disch := first | omega | rfl) [m50, h41, w, w1, m0, m1, c1, c2, e1, KS, getS, getO, gS, zipN, dropW, takeW, wds, sea, seaL, refs, refsL, noExt, ren, boxO, putW, putB, putB1, w64, -getElem?_pos]
end
section
theorem R36 (N d : Nat) (l : Lo) (h : okC64 l.1.1) : sem tab N (d + 1) 36 [.agg (loC false l)] [] = some (.i .i64 (slots l.1.1), []) := by
  rw [sem_succ tab N d 36 m36 rfl]
  obtain ⟨⟨c, D, u⟩, L, H⟩ := l
  have sr := slots_range h
  simp only at h sr
  have w : IntKind.i64.wrap (c.tdiv 62) = c.tdiv 62 := by unfold slots at sr; exact w64 (by omega) (by omega)
  simp only [loC, slots]
  generalize byL D = b at *
  generalize enL L = a at *
  generalize uL H = q at *
  simp -implicitDefEqProofs (maxSteps := 1000000) (disch := first | omega | rfl) [m36, w, KS, getS, getO, gS, zipN, dropW, wds, refs, boxO, -getElem?_pos]
set_option maxHeartbeats 8000000 in
theorem R21 (M d : Nat) (l : Lo) (hl : l.2.1.length ≤ 264) (ho : ∀ e ∈ l.2.1, okE e) (hh : l.2.2.length = 32) : sem tab (M + 1000) (d + 8) 21 [.agg (loC false l)] [] = some (.b (mayG l), []) := by
  rw [sem_succ tab (M + 1000) (d + 7) 21 m21 rfl]
  have h38 := V38 M d l.2.1 hl ho
  have h41 := R41 (M + 1000) (d + 6) l.1
  have he := eqIs_dec (hdL h0 l.2.1) l.2.2 (by rw [hdL_len _ _ h0_len, hh])
  unfold mayG
  obtain ⟨⟨c, D, u⟩, L, H⟩ := l
  simp only at hl ho hh h38 h41 he ⊢
  have rl := recL_len L h0
  have ql := byL_len (recL h0 L)
  have tkq : List.take (recL h0 L).length (byL (recL h0 L)) = byL (recL h0 L) := List.take_of_length_le (by omega)
  have b1 := unB_by (recL h0 L)
  have b2 := unB_by D
  have hzl : (List.replicate 32 (PV.i IntKind.u8 0)).length = 32 := rfl
  have bl := byL_len D
  have uh := uL_len H
  rw [hh] at uh
  have u2 := uL_len (hdL h0 L)
  rw [hdL_len _ _ h0_len] at u2
  have hz := hz32
  simp only [loC, soC, yesPut, noPut] at h38 h41 ⊢
  cases hm : L.all mayE
  · rw [hm] at h38
    simp only [cond_false, ← hz, row] at h38
    clear hz he
    generalize mayS (c, D, u) = ms at *
    generalize byL D = b at *
    generalize enL L = a at *
    generalize uL H = q at *
    generalize hz' : List.replicate 32 (PV.i .u8 0) = zz at *
    cases ms <;> simp -implicitDefEqProofs (maxSteps := 1000000) (disch := first | omega | rfl) [m21, h38, h41, hz', KS, getS, getO, gS, zipN, dropW, takeW, wds, refs, refsL, noExt, noExts, ren, renL, boxO, putW, newOs, renO, noExtO, -getElem?_pos]
  · rw [hm] at h38
    simp only [cond_true, row] at h38
    generalize decide (hdL h0 L = H) = q2 at *
    rw [← bl]
    rw [← ql] at tkq h38
    generalize chars (recL h0 L) = s1 at *
    generalize chars D = s2 at *
    generalize byL (recL h0 L) = w at *
    generalize uL (hdL h0 L) = v at *
    generalize byL D = b at *
    generalize enL L = a at *
    generalize uL H = q at *
    generalize hz' : List.replicate 32 (PV.i .u8 0) = zz at *
    cases hs : mayS (c, D, u)
    · rw [hs] at h41
      simp -implicitDefEqProofs (maxSteps := 1000000) (disch := first | omega | rfl) [m21, h38, h41, hz', KS, getS, getO, gS, zipN, dropW, takeW, wds, refs, refsL, noExt, noExts, ren, renL, boxO, putW, newOs, renO, noExtO, -getElem?_pos]
    · rw [hs] at h41
      cases e1 : u == (b.length : Int)
      · simp -implicitDefEqProofs (maxSteps := 1000000) (disch := first | omega | rfl) [m21, h38, h41, e1, hz', KS, getS, getO, gS, zipN, dropW, takeW, wds, refs, refsL, noExt, noExts, ren, renL, boxO, putW, newOs, renO, noExtO, -getElem?_pos]
      · by_cases hc : s1 = s2
        · subst hc
          cases q2 <;> simp -implicitDefEqProofs (maxSteps := 1000000) (disch := first | omega | rfl) [m21, h38, h41, he, e1, b1, b2, tkq, hz', KS, getS, getO, gS, zipN, dropW, takeW, wds, refs, refsL, noExt, noExts, ren, renL, boxO, putW, newOs, renO, noExtO, -getElem?_pos]
        · simp -implicitDefEqProofs (maxSteps := 1000000) (disch := first | omega | rfl) [m21, h38, h41, e1, b1, b2, hc, tkq, hz', KS, getS, getO, gS, zipN, dropW, takeW, wds, refs, refsL, noExt, noExts, ren, renL, boxO, putW, newOs, renO, noExtO, -getElem?_pos]
set_option maxHeartbeats 4000000 in
theorem R17 (N d : Nat) (l m : Lo) (hl : l.2.1.length < 1000) (hh : l.2.2.length = 32) (hh' : m.2.2.length = 32) : sem tab (N + 1000) (d + 3) 17 [.agg (loC false l), .agg (loC false m)] [] = some (.b (sameG l m), []) := by
  rw [sem_succ tab (N + 1000) (d + 2) 17 m17 rfl]
  have h18 := R18 (N + 1000) d l.1 m.1
  have h48 := V42 N (d + 1) l.2.1 m.2.1 hl
  have he := eqIs_dec l.2.2 m.2.2 (by omega)
  have uh := uL_len l.2.2
  have uh' := uL_len m.2.2
  rw [hh] at uh
  rw [hh'] at uh'
  unfold sameG
  obtain ⟨⟨c, D, u⟩, L, H⟩ := l
  obtain ⟨⟨c', D', u'⟩, L', H'⟩ := m
  simp only at h18 h48 he uh uh' ⊢
  simp only [loC, soC] at h18 ⊢
  generalize decide (H = H') = q3 at *
  generalize sameL L L' = q2 at *
  generalize sameS (c, D, u) (c', D', u') = q1 at *
  generalize byL D = b at *
  generalize byL D' = b' at *
  generalize enL L = a at *
  generalize enL L' = a' at *
  generalize uL H = q at *
  generalize uL H' = q' at *
  cases q1 <;> cases q2 <;> cases q3 <;> simp -implicitDefEqProofs (maxSteps := 1000000) (disch := first | omega | rfl) [m17, h18, h48, he, KS, getS, getO, gS, zipN, dropW, takeW, wds, refs, refsL, noExt, ren, boxO, -getElem?_pos]
set_option maxHeartbeats 4000000 in
theorem R25 (M d : Nat) (l : Lo) (hc : okC64 l.1.1) (hl : l.2.1.length ≤ 264) (ho : ∀ e ∈ l.2.1, okE e) (hh : l.2.2.length = 32) : sem tab (M + 1000) (d + 9) 25 [.agg (loC false l)] [] = some (.i .i64 (roomL l), []) := by
  rw [sem_succ tab (M + 1000) (d + 8) 25 m25 rfl]
  have h21 := R21 M d l hl ho hh
  have h36 := R36 (M + 1000) (d + 7) l hc
  have sr := slots_range hc
  unfold roomL waitN
  have uh := uL_len l.2.2
  rw [hh] at uh
  generalize mayG l = mm at *
  obtain ⟨⟨c, D, u⟩, L, H⟩ := l
  simp only at hc hl sr uh h36 ⊢
  have el := enL_len L
  generalize slots c = s at *
  have w1 : IntKind.i64.wrap (s - 4) = s - 4 := w64 (by omega) (by omega)
  have w2 : IntKind.i64.wrap (s - 4 - (L.length : Int)) = s - 4 - (L.length : Int) := w64 (by omega) (by omega)
  simp only [loC] at h21 h36 ⊢
  rw [← el] at w2
  rw [← el]
  generalize byL D = b at *
  generalize enL L = a at *
  generalize uL H = q at *
  cases mm
  · simp -implicitDefEqProofs (maxSteps := 1000000) (disch := first | omega | rfl) [m25, h21, h36, w1, w2, KS, getS, getO, gS, zipN, dropW, takeW, wds, refs, refsL, noExt, ren, boxO, -getElem?_pos]
  · by_cases h1 : s - 4 - (a.length : Int) < 0
    · have e : max 0 (s - 4 - (a.length : Int)) = 0 := by omega
      rw [e]
      simp -implicitDefEqProofs (maxSteps := 1000000) (disch := first | omega | rfl) [m25, h21, h36, w1, w2, h1, KS, getS, getO, gS, zipN, dropW, takeW, wds, refs, refsL, noExt, ren, boxO, -getElem?_pos]
    · have e : max 0 (s - 4 - (a.length : Int)) = s - 4 - (a.length : Int) := by omega
      rw [e]
      simp -implicitDefEqProofs (maxSteps := 1000000) (disch := first | omega | rfl) [m25, h21, h36, w1, w2, h1, KS, getS, getO, gS, zipN, dropW, takeW, wds, refs, refsL, noExt, ren, boxO, -getElem?_pos]
set_option maxHeartbeats 8000000 in
theorem R37 (M d : Nat) (l : Lo) (e : En) (hh : l.2.2.length = 32) (hR : byR l.2.2) (ho : okE e) (hm : mayE e = true) : sem tab (M + 1000) (d + 7) 37 [.agg (loC false l), .agg (enC e)] [] = some (.tup [.sl 0 0 0 62, .agg [.blob 32 (uL (linkH l.2.2 e))]], [row (byL (encB e ++ linkH l.2.2 e)) 1 true]) := by
  rw [sem_succ tab (M + 1000) (d + 6) 37 m37 rfl]
  have h67 := V68 (M + 900) (d + 2) e ho
  rw [show M + 900 + 100 = M + 1000 by omega, show d + 2 + 4 = d + 6 by omega, hm, cond_true] at h67
  have h68 := V39 M d l.2.2 e hh hR ho
  rw [linkC, hm, cond_true] at h68
  obtain ⟨⟨c, D, u⟩, L, H⟩ := l
  simp only at hh hR h68 ⊢
  have be := byL_len (encB e)
  rw [encB_len] at be
  have te : List.take 30 (byL (encB e)) = byL (encB e) := List.take_of_length_le (by omega)
  have ql := uL_len (linkH H e)
  rw [linkH_len] at ql
  have tu := take_u (linkH H e) (linkH_len H e)
  have tu0 : (uL (linkH H e)).take 32 = uL (linkH H e) := by rw [← List.drop_zero (l := uL (linkH H e))]; exact tu
  have mul : ((uL (linkH H e)).map (fun v => [v])).length = 32 := by rw [List.length_map, uL_len, linkH_len]
  have muw : allW 1 ((uL (linkH H e)).map (fun v => [v])) = true := by rw [map_u]; exact allW_by _
  have muf : flatEls ((uL (linkH H e)).map (fun v => [v])) = true := by rw [map_u]; exact flat_by _
  have mt : List.take 32 ((uL (linkH H e)).map (fun v => [v])) = (uL (linkH H e)).map (fun v => [v]) := List.take_of_length_le (by omega)
  have mt2 : List.take 62 (byL (encB e) ++ (uL (linkH H e)).map (fun v => [v])) = byL (encB e) ++ (uL (linkH H e)).map (fun v => [v]) := List.take_of_length_le (by rw [List.length_append]; omega)
  have we := allW_by (encB e)
  have fe := flat_by (encB e)
  have uh := uL_len H
  rw [hh] at uh
  have hb : byL (encB e ++ linkH H e) = byL (encB e) ++ (uL (linkH H e)).map (fun v => [v]) := by rw [byL_app', map_u]
  rw [hb]
  clear hb
  simp only [loC]
  generalize byL (encB e) = eb at *
  generalize uL (linkH H e) = v at *
  generalize byL D = b at *
  generalize enL L = a at *
  generalize uL H = q at *
  obtain ⟨e1, e2, e3, e4, e5, e6, e7, e8, e9⟩ := e
  simp only [enC] at h67 h68 ⊢
  simp only [row] at h67 ⊢
  have hzl : (List.replicate 32 (PV.i IntKind.u8 0)).length = 32 := rfl
  generalize hz' : List.replicate 32 (PV.i .u8 0) = zz at *
  simp -implicitDefEqProofs (maxSteps := 1000000) (disch := first | omega | rfl) [m37, h67, h68, be, te, ql, tu0, mul, muw, muf, mt2, hz', k_cont_bs, k_dis, KV, KS, getS, getO, gS, zipN, dropW, takeW, wds, sea, seaL, refs, refsL, noExt, noExts, ren, renL, cntN, boxO, row, putW, newOs, renO, noExtO, two32, -getElem?_pos]
end
section
set_option maxHeartbeats 8000000 in
theorem R14g (M d : Nat) (s : So) (h : s.2.1.length ≤ 50000) (hr : byR s.2.1) : sem tab (M + 1000) (d + 8) 14 [.agg (soC false s)] [] = cond (mayS s) (some (.tup [.agg [.i .i64 (openL s).1.1, .l false (byL (openL s).1.2.1), .i .i64 (openL s).1.2.2, .l true (enL (openL s).2.1), .blob 32 (uL (openL s).2.2)], .i .i64 0], [])) (loR zeLo 1) := by
  rw [sem_succ tab (M + 1000) (d + 7) 14 m14 rfl]
  have h27 : sem tab (M + 1000) (d + 7) 41 [.agg (soC false s)] [] = _ := R41 (M + 1000) (d + 6) s
  have hz := hz32
  unfold loR
  cases hm : mayS s
  · rw [hm] at h27
    obtain ⟨c, D, u⟩ := s
    simp only [soC, loC, zeLo, show byL [] = [] from rfl, show enL [] = [] from rfl, ← hz] at h27 ⊢
    clear hz
    have hzl : (List.replicate 32 (PV.i IntKind.u8 0)).length = 32 := rfl
    generalize byL D = b at *
    generalize hz' : List.replicate 32 (PV.i .u8 0) = zz at *
    simp -implicitDefEqProofs (maxSteps := 1000000) (disch := first | omega | rfl) [m14, h27, hz', KS, getS, getO, gS, zipN, dropW, takeW, wds, sea, seaL, refs, refsL, noExt, ren, boxO, putW, putB, putB1, -getElem?_pos]
  · rw [hm] at h27
    have h31 := V40r M d s.2.1 (by omega) hr
    have rl := rdL_le s.2.1 hr
    have h40 : sem tab (M + 1000) (d + 7) 43 [.agg (soC false s), .i .i64 ((62 * (rdL s.2.1).length : Nat) : Int)] [] = _ := R43 (M + 1000) (d + 5) s ((62 * (rdL s.2.1).length : Nat) : Int) hm (by omega) (by omega)
    rw [Int.toNat_natCast] at h40
    have hdl : (rdH s.2.1).length = 32 := by
      have := (rd_spec 264 h0 s.2.1 hr).2.2.1
      rw [show rdH s.2.1 = _ from this.symm]
      exact hdL_len _ _ h0_len
    have ul := uL_len (rdH s.2.1)
    rw [hdl] at ul
    have el := enL_len (rdL s.2.1)
    have te : List.take (rdL s.2.1).length (enL (rdL s.2.1)) = enL (rdL s.2.1) := List.take_of_length_le (by omega)
    simp only [openL, stQz, outR] at h31 h40 ⊢
    obtain ⟨c, D, u⟩ := s
    simp only [soC, loC] at h27 h31 h40 ul el te ⊢
    clear hz
    have hzl : (List.replicate 32 (PV.i IntKind.u8 0)).length = 32 := rfl
    generalize byL (List.take (62 * (rdL D).length) D) = b' at *
    generalize byL D = b at *
    generalize enL (rdL D) = a at *
    generalize uL (rdH D) = q at *
    generalize 62 * (rdL D).length = n at *
    generalize hz' : List.replicate 32 (PV.i .u8 0) = zz at *
    simp only [row] at h31
    simp -implicitDefEqProofs (maxSteps := 1000000) (disch := first | omega | rfl) [m14, h27, h31, h40, el, te, hz', KS, getS, getO, gS, zipN, dropW, takeW, wds, sea, seaL, refs, refsL, noExt, noExts, ren, renL, boxO, putW, putB, putB1, newOs, renO, noExtO, -getElem?_pos]
set_option maxHeartbeats 4000000 in
theorem R16g (M d : Nat) (r : Int) : sem tab (M + 1000) (d + 8) 16 [.i .i64 r] [] = cond (mayS (r, [], 0)) (some (.tup [.agg (loC true ((r, [], 0), [], h0)), .b true], [])) (some (.tup [.agg (loC true zeLo), .b false], [])) := by
  rw [sem_succ tab (M + 1000) (d + 7) 16 m16 rfl]
  have h44 : sem tab (M + 1000) (d + 7) 46 [.i .i64 r] [] = _ := R46 (M + 1000) (d + 5) r
  have h45 : sem tab (M + 1000) (d + 7) 47 [.l false []] [] = _ := V46n M (d + 1)
  have ul := uL_len h0
  rw [h0_len] at ul
  have hz := hz32
  have hzl : (List.replicate 32 (PV.i IntKind.u8 0)).length = 32 := rfl
  simp only [soC, loC, zeLo, show byL [] = [] from rfl, show enL [] = [] from rfl, ← hz] at h44 ⊢
  clear hz
  generalize uL h0 = q at *
  generalize hz' : List.replicate 32 (PV.i .u8 0) = zz at *
  cases hm : mayS (r, [], 0) <;> rw [hm] at h44 <;> simp -implicitDefEqProofs (maxSteps := 1000000) (disch := first | omega | rfl) [m16, h44, h45, hz', KS, getS, getO, gS, zipN, dropW, takeW, wds, sea, seaL, refs, refsL, noExt, noExts, ren, renL, boxO, putW, putB, putB1, -getElem?_pos]
set_option maxHeartbeats 32000000 in
theorem R20g (M d : Nat) (l : Lo) (e : En) (k : Int) (hc : okC64 l.1.1) (hD : l.1.2.1.length ≤ 40000) (hl : l.2.1.length ≤ 264) (ho : ∀ e ∈ l.2.1, okE e) (hoe : okE e) (hh : l.2.2.length = 32) (hR : byR l.2.2) :
    sem tab (M + 1000) (d + 9) 20 [.agg (loC false l), .agg (enC e), .i .i64 k] [] = some (.agg (soC false (tornS l e k)), []) := by
  rw [sem_succ tab (M + 1000) (d + 8) 20 m20 rfl]
  have h22 := R21 M d l hl ho hh
  have h29 : sem tab (M + 1000) (d + 8) 35 [.agg (enC e)] [] = _ := V87 (M + 1000) (d + 7) e
  have h36 : sem tab (M + 1000) (d + 8) 36 [.agg (loC false l)] [] = _ := R36 (M + 1000) (d + 7) l hc
  have hzl : (List.replicate 32 (PV.i IntKind.u8 0)).length = 32 := rfl
  have el := enL_len l.2.1
  have uh := uL_len l.2.2
  rw [hh] at uh
  unfold tornS
  by_cases hmm : (mayG l && (mayE e && decide ((l.2.1.length : Int) < slots l.1.1))) = true
  · have hmm' := hmm
    simp only [Bool.and_eq_true] at hmm'
    obtain ⟨hm, hme, hr⟩ := hmm'
    rw [hmm, cond_true]
    rw [hm] at h22
    rw [hme] at h29
    have r1 := of_decide_eq_true hr
    obtain ⟨g1, g2, g3, g4, g5, g6⟩ := mayG_spec hm
    have h32 : sem tab (M + 1000) (d + 8) 37 [.agg (loC false l), .agg (enC e)] [] = _ := R37 M (d + 1) l e hh hR hoe hme
    have rlen : (encB e ++ linkH l.2.2 e).length = 62 := by simp [encB_len, linkH_len]
    have ms := g2
    simp only [mayS, Bool.and_eq_true, decide_eq_true_eq] at ms
    have r2 := r1
    rw [slots_pos (by omega)] at r2
    have h33 : sem tab (M + 1000) (d + 8) 38 [.agg (soC false l.1), .l false (byL (encB e ++ linkH l.2.2 e))] [] = _ := R38 (M + 1000) (d + 6) l.1 (encB e ++ linkH l.2.2 e) (by omega) rlen g2 (by omega)
    have hmw : mayS (l.1.1, l.1.2.1 ++ (encB e ++ linkH l.2.2 e), l.1.2.2) = true := by
      simp only [mayS, Bool.and_eq_true, decide_eq_true_eq, List.length_append, encB_len, linkH_len] at ms ⊢
      omega
    have h49 : sem tab (M + 1000) (d + 8) 50 [.agg (soC false (l.1.1, l.1.2.1 ++ (encB e ++ linkH l.2.2 e), l.1.2.2)), .i .i64 k] [] = _ := R50 (M + 1000) (d + 6) _ k hmw
    have wl := byL_len (encB e ++ linkH l.2.2 e)
    rw [rlen] at wl
    have tw : List.take 62 (byL (encB e ++ linkH l.2.2 e)) = byL (encB e ++ linkH l.2.2 e) := List.take_of_length_le (by omega)
    have vl := uL_len (linkH l.2.2 e)
    rw [linkH_len] at vl
    generalize slots l.1.1 = sn at *
    generalize crS (l.1.1, l.1.2.1 ++ (encB e ++ linkH l.2.2 e), l.1.2.2) k = R at *
    have r3 : ¬ ((l.2.1.length : Int) ≥ sn) := by omega
    rw [← el] at r3
    simp only [loC, stR, soC] at h33 h49 ⊢
    generalize byL (l.1.2.1 ++ (encB e ++ linkH l.2.2 e)) = b2 at *
    generalize byL (encB e ++ linkH l.2.2 e) = w at *
    generalize uL (linkH l.2.2 e) = v at *
    clear ms g1 g2 g3 g4 g5 g6 r1 r2 hmw
    obtain ⟨⟨c, D, u⟩, L, H⟩ := l
    obtain ⟨c', D', u'⟩ := R
    simp only [loC] at h22 h36 h32 h33 h49 el uh r3 ⊢
    generalize byL D = b at *
    generalize byL D' = b' at *
    generalize enL L = a at *
    generalize uL H = q at *
    obtain ⟨e1, e2, e3, e4, e5, e6, e7, e8, e9⟩ := e
    simp only [enC] at h29 h32 ⊢
    simp only [row] at h32
    generalize hz' : List.replicate 32 (PV.i .u8 0) = zz at *
    simp -implicitDefEqProofs (maxSteps := 1000000) (disch := first | omega | rfl) [m20, h22, h29, h36, h32, h33, h49, r3, wl, tw, hz', KS, getS, getO, gS, zipN, dropW, takeW, wds, sea, seaL, refs, refsL, noExt, noExts, ren, renL, boxO, putW, newOs, renO, noExtO, -getElem?_pos]
  · have hmm' : (mayG l && (mayE e && decide ((l.2.1.length : Int) < slots l.1.1))) = false := by simpa using hmm
    rw [hmm', cond_false]
    simp only [loC, soC]
    rw [← el] at hmm'
    generalize slots l.1.1 = sn at *
    generalize mayG l = m1 at *
    generalize mayE e = m2 at *
    obtain ⟨⟨c, D, u⟩, L, H⟩ := l
    simp only [loC] at h22 h36 el uh hmm' ⊢
    generalize byL D = b at *
    generalize enL L = a at *
    generalize uL H = q at *
    obtain ⟨e1, e2, e3, e4, e5, e6, e7, e8, e9⟩ := e
    simp only [enC] at h29 ⊢
    generalize hz' : List.replicate 32 (PV.i .u8 0) = zz at *
    cases m1
    · simp -implicitDefEqProofs (maxSteps := 1000000) (disch := first | omega | rfl) [m20, h22, h29, hz', KS, getS, getO, gS, zipN, dropW, takeW, wds, sea, seaL, refs, refsL, noExt, ren, boxO, putW, -getElem?_pos]
    · cases m2
      · simp -implicitDefEqProofs (maxSteps := 1000000) (disch := first | omega | rfl) [m20, h22, h29, hz', KS, getS, getO, gS, zipN, dropW, takeW, wds, sea, seaL, refs, refsL, noExt, ren, boxO, putW, -getElem?_pos]
      · simp only [Bool.true_and] at hmm'
        have r3 : (a.length : Int) ≥ sn := by have := of_decide_eq_false hmm'; omega
        simp -implicitDefEqProofs (maxSteps := 1000000) (disch := first | omega | rfl) [m20, h22, h29, h36, r3, hz', KS, getS, getO, gS, zipN, dropW, takeW, wds, sea, seaL, refs, refsL, noExt, ren, boxO, putW, -getElem?_pos]
end
section
noncomputable def addQ (l : Lo) (e : En) (urg : Bool) : Option R :=
  cond (mayG l && mayE e) (cond (decide ((l.2.1.length : Int) < slots l.1.1) && (!(waitN l == 0) || urg))
    (some (.tup [.agg [.i .i64 (moreG l e).1.1, .l false (byL (moreG l e).1.2.1), .i .i64 (moreG l e).1.2.2, .l true (enL (moreG l e).2.1), .blob 32 (uL (moreG l e).2.2)], .i .i64 0], []))
    (some (.tup [.agg (loC false l), .i .i64 12], []))) (some (.tup [.agg (loC false l), .i .i64 1], []))
set_option maxHeartbeats 32000000 in
theorem R12g (M d : Nat) (l : Lo) (e : En) (urg : Bool) (hc : okC64 l.1.1) (hD : l.1.2.1.length ≤ 40000) (hl : l.2.1.length ≤ 264) (ho : ∀ e ∈ l.2.1, okE e) (hoe : okE e) (hh : l.2.2.length = 32) (hR : byR l.2.2) :
    sem tab (M + 1000) (d + 10) 12 [.agg (loC false l), .agg (enC e), .b urg] [] = addQ l e urg := by
  rw [sem_succ tab (M + 1000) (d + 9) 12 m12 rfl]
  have h22 : sem tab (M + 1000) (d + 9) 21 [.agg (loC false l)] [] = _ := R21 M (d + 1) l hl ho hh
  have h29 : sem tab (M + 1000) (d + 9) 35 [.agg (enC e)] [] = _ := V87 (M + 1000) (d + 8) e
  have h36 : sem tab (M + 1000) (d + 9) 36 [.agg (loC false l)] [] = _ := R36 (M + 1000) (d + 8) l hc
  have h25 := R25 M d l hc hl ho hh
  rw [roomL] at h25
  have hzl : (List.replicate 32 (PV.i IntKind.u8 0)).length = 32 := rfl
  have el := enL_len l.2.1
  have uh := uL_len l.2.2
  rw [hh] at uh
  unfold addQ
  by_cases hmm : (mayG l && mayE e) = true
  · have hmm' := hmm
    rw [Bool.and_eq_true] at hmm'
    obtain ⟨hm, hme⟩ := hmm'
    rw [hmm, cond_true]
    rw [hm] at h22 h25
    rw [hme] at h29
    rw [cond_true] at h25
    by_cases hr : (decide ((l.2.1.length : Int) < slots l.1.1) && (!(waitN l == 0) || urg)) = true
    · rw [hr, cond_true]
      rw [Bool.and_eq_true, decide_eq_true_eq] at hr
      obtain ⟨r1, r2⟩ := hr
      obtain ⟨g1, g2, g3, g4, g5, g6⟩ := mayG_spec hm
      have h32 : sem tab (M + 1000) (d + 9) 37 [.agg (loC false l), .agg (enC e)] [] = _ := R37 M (d + 2) l e hh hR hoe hme
      have rlen : (encB e ++ linkH l.2.2 e).length = 62 := by simp [encB_len, linkH_len]
      have ms := g2
      simp only [mayS, Bool.and_eq_true, decide_eq_true_eq] at ms
      have r3 := r1
      rw [slots_pos (by omega)] at r3
      have h33 : sem tab (M + 1000) (d + 9) 38 [.agg (soC false l.1), .l false (byL (encB e ++ linkH l.2.2 e))] [] = _ := R38 (M + 1000) (d + 7) l.1 (encB e ++ linkH l.2.2 e) (by omega) rlen g2 (by omega)
      have hmw : mayS (l.1.1, l.1.2.1 ++ (encB e ++ linkH l.2.2 e), l.1.2.2) = true := by
        simp only [mayS, Bool.and_eq_true, decide_eq_true_eq, List.length_append, encB_len, linkH_len] at ms ⊢
        omega
      have h34 : sem tab (M + 1000) (d + 9) 39 [.agg (soC false (l.1.1, l.1.2.1 ++ (encB e ++ linkH l.2.2 e), l.1.2.2))] [] = _ := R39 (M + 1000) (d + 7) _ hmw
      have wl := byL_len (encB e ++ linkH l.2.2 e)
      rw [rlen] at wl
      have tw : List.take 62 (byL (encB e ++ linkH l.2.2 e)) = byL (encB e ++ linkH l.2.2 e) := List.take_of_length_le (by omega)
      have vl := uL_len (linkH l.2.2 e)
      rw [linkH_len] at vl
      have le0 : l.2.1.length ≤ 4294967296 := by omega
      have le1 : l.2.1.length + 1 ≤ 4294967296 := by omega
      have le2 : ¬ (l.2.1.length + 1 ≤ l.2.1.length) := by omega
      have ta : ∀ w : List PV, List.take (l.2.1.length + 1) (enL l.2.1 ++ [w]) = enL l.2.1 ++ [w] := fun w => List.take_of_length_le (by simp; omega)
      have tk : List.take l.2.1.length (enL l.2.1) = enL l.2.1 := List.take_of_length_le (by omega)
      have ea : enL (l.2.1 ++ [e]) = enL l.2.1 ++ [enC e] := by simp [enL]
      have wle := allW_en l.2.1
      have fle := flat_en l.2.1
      have r4 : ¬ ((l.2.1.length : Int) ≥ slots l.1.1) := by omega
      generalize slots l.1.1 = sn at *
      simp only [moreG, loC, stR, stQz, soC, ea, List.length_append] at h33 h34 ⊢
      generalize ((l.1.2.1.length + ((encB e).length + (linkH l.2.2 e).length) : Nat) : Int) = tl at *
      generalize hw0 : (waitN l == 0) = w0 at *
      generalize waitN l = wn at *
      generalize byL (l.1.2.1 ++ (encB e ++ linkH l.2.2 e)) = b2 at *
      generalize byL (encB e ++ linkH l.2.2 e) = w at *
      generalize uL (linkH l.2.2 e) = v at *
      clear ms g1 g2 g3 g4 g5 g6 r1 r3 hmw
      obtain ⟨⟨c, D, u⟩, L, H⟩ := l
      simp only [loC] at h22 h25 h36 h32 h33 h34 el uh r4 le0 le1 le2 ta tk wle fle ⊢
      generalize byL D = b at *
      generalize enL L = a at *
      generalize uL H = q at *
      obtain ⟨e1, e2, e3, e4, e5, e6, e7, e8, e9⟩ := e
      simp only [enC] at h29 h32 ⊢
      simp only [row] at h32 ⊢
      generalize hz' : List.replicate 32 (PV.i .u8 0) = zz at *
      cases w0
      · cases urg <;> simp -implicitDefEqProofs (maxSteps := 1000000) (disch := first | omega | rfl) [m12, h22, h29, h36, h25, h32, h33, h34, hw0, r4, el, wl, tw, le0, le1, le2, ta, tk, wle, fle, hz', k_dis, KS, getS, getO, gS, zipN, dropW, takeW, wds, stvs, sea, seaL, refs, refsL, isPureEls, isPures, isPure, noExt, noExts, noExtEls, cellsL, ren, renL, boxO, row, putW, putB, putB1, newOs, renO, noExtO, two32, -getElem?_pos]
      · rw [show urg = true by simpa using r2]
        simp -implicitDefEqProofs (maxSteps := 1000000) (disch := first | omega | rfl) [m12, h22, h29, h36, h32, h33, h34, r4, el, wl, tw, le0, le1, le2, ta, tk, wle, fle, hz', k_dis, KS, getS, getO, gS, zipN, dropW, takeW, wds, stvs, sea, seaL, refs, refsL, isPureEls, isPures, isPure, noExt, noExts, noExtEls, cellsL, ren, renL, boxO, row, putW, putB, putB1, newOs, renO, noExtO, two32, -getElem?_pos]
    · have hr' : (decide ((l.2.1.length : Int) < slots l.1.1) && (!(waitN l == 0) || urg)) = false := by simpa using hr
      rw [hr', cond_false]
      rw [← el] at hr'
      generalize slots l.1.1 = sn at *
      generalize hw0 : (waitN l == 0) = w0 at *
      generalize waitN l = wn at *
      obtain ⟨⟨c, D, u⟩, L, H⟩ := l
      simp only [loC] at h22 h25 h36 el uh hr' ⊢
      generalize byL D = b at *
      generalize enL L = a at *
      generalize uL H = q at *
      obtain ⟨e1, e2, e3, e4, e5, e6, e7, e8, e9⟩ := e
      simp only [enC] at h29 ⊢
      generalize hz' : List.replicate 32 (PV.i .u8 0) = zz at *
      by_cases r4 : (a.length : Int) ≥ sn
      · simp -implicitDefEqProofs (maxSteps := 1000000) (disch := first | omega | rfl) [m12, h22, h29, h36, r4, hz', KY, KS, getS, getO, gS, zipN, dropW, takeW, wds, stvs, sea, seaL, refs, refsL, isPureEls, noExt, noExtEls, cellsL, ren, boxO, putW, putB, putB1, -getElem?_pos]
      · rw [decide_eq_true (show (a.length : Int) < sn by omega)] at hr'
        simp only [Bool.true_and, Bool.or_eq_false_iff, Bool.not_eq_false'] at hr'
        obtain ⟨rfl, rfl⟩ := hr'
        simp -implicitDefEqProofs (maxSteps := 1000000) (disch := first | omega | rfl) [m12, h22, h29, h36, h25, hw0, r4, hz', KY, KS, getS, getO, gS, zipN, dropW, takeW, wds, stvs, sea, seaL, refs, refsL, isPureEls, noExt, noExtEls, cellsL, ren, boxO, putW, putB, putB1, -getElem?_pos]
  · have hmm' : (mayG l && mayE e) = false := by simpa using hmm
    rw [hmm', cond_false]
    generalize mayG l = m1 at *
    generalize mayE e = m2 at *
    obtain ⟨⟨c, D, u⟩, L, H⟩ := l
    simp only [loC] at h22 h36 el uh ⊢
    generalize byL D = b at *
    generalize enL L = a at *
    generalize uL H = q at *
    obtain ⟨e1, e2, e3, e4, e5, e6, e7, e8, e9⟩ := e
    simp only [enC] at h29 ⊢
    generalize hz' : List.replicate 32 (PV.i .u8 0) = zz at *
    cases m1
    · simp -implicitDefEqProofs (maxSteps := 1000000) (disch := first | omega | rfl) [m12, h22, h29, hz', KY, KS, getS, getO, gS, zipN, dropW, takeW, wds, stvs, sea, seaL, refs, refsL, isPureEls, noExt, noExtEls, cellsL, ren, boxO, putW, putB, putB1, -getElem?_pos]
    · cases m2
      · simp -implicitDefEqProofs (maxSteps := 1000000) (disch := first | omega | rfl) [m12, h22, h29, hz', KY, KS, getS, getO, gS, zipN, dropW, takeW, wds, stvs, sea, seaL, refs, refsL, isPureEls, noExt, noExtEls, cellsL, ren, boxO, putW, putB, putB1, -getElem?_pos]
      · cases hmm'
end
end Go.Proofs.YtmhpkdcnhgmblaaDoor
