import Derived.Test.YtnkapponcbgbhaaPgD
set_option linter.all false
set_option linter.unusedSimpArgs false
set_option linter.unusedVariables false
namespace Go.Proofs.Ytnkapponcbgbhaa
open Go
theorem allW_evc (l : List Evn) : allW 5 (evL l) = true := by
  induction l with
  | nil => rfl
  | cons x r ih => simp only [evL, List.map_cons, evC, allW, wds, wd]; exact ih
def bxE (e : Evn) : Obj' := { els := [evC e], w := 5, pu := false, g := true, cap := none, ver := 0, fro := false }
def slp8 (xs : List (List PV)) (er : Int) (had : Bool) (i : Nat) : SL := [(0, .l false xs), (3, .p 88 0 0 0 none), (7, .p 120 0 0 0 none), (8, .i .i64 er), (9, .b had), (10, .i .i64 i)]
def obp8 (e : Evn) (f : Fra) : OB := [(88, bxE e), (120, bxF f)]
set_option maxHeartbeats 16000000 in
theorem stepp8 (N d : Nat) (g : SL → OB → Option R) (xs : List (List PV)) (er : Int) (had : Bool) (i : Nat) (a e : Evn) (f : Fra) (hx : xs[i]? = some (evC a)) (hi : i < xs.length) (hn : xs.length ≤ 900) (ha : fewE a) :
    m8b0 (sem tab (N + 1000) (d + 6)) (N + 1000) [] g (slp8 xs er had i) (obp8 e f) = g (slp8 xs er (had || (helE a && (a.draw == e.draw))) (i + 1)) (obp8 e f) := by
  have h20 := V11 N d a.raw ha.1 ha.2
  have w2 := w64n (i := i) (by omega)
  have ci : (i : Int) < xs.length := by omega
  unfold outRd okR errR at h20
  clear ha
  obtain ⟨k, raw, dr, bo, ke⟩ := a
  obtain ⟨k', raw', dr', bo', ke'⟩ := e
  simp only [evC] at hx h20
  simp only [slp8, obp8, bxE, bxF, evC]
  generalize hz' : List.replicate 32 (PV.i .u8 0) = zz at *
  generalize hq : (dr == dr') = dq
  by_cases hk : k = 0
  · subst hk
    cases hg : goodF raw
    · have e5 : helE ⟨0, raw, dr, bo, ke⟩ = false := by simp [helE, kindE, hg]
      rw [e5, Bool.false_and, Bool.or_false]
      rw [hg, cond_false] at h20
      have he' : (errF raw == 0) = false := by
        have : errF raw ≠ 0 := by unfold errF; split; · decide
                                  · split <;> decide
        simpa using this
      simp only [frC, zeF] at h20 ⊢
      generalize errF raw = er2 at *
      generalize byL raw = b at *
      generalize byL raw' = b' at *
      generalize uL z32 = q at *
      generalize uL f.tag = q3 at *
      cases had <;> simp -implicitDefEqProofs (maxSteps := 1000000) (disch := first | omega | rfl) [m8b0, hx, h20, he', w2, ci, hz', KS, getS, getO, gS, dropW, takeW, wds, stvs, refs, refsL, refsEls, refsO, isPureEls, noExt, noExts, noExtEls, cellsL, ren, renL, keepO, keepS, keysO, refsS, refsOB, cntN, headC, boxO, row, putW, two32, -getElem?_pos]
    · rw [hg, cond_true] at h20
      have e5 : helE ⟨0, raw, dr, bo, ke⟩ = ((seemF raw).kind == 0) := by simp [helE, kindE, hg]
      rw [e5]
      clear e5 hg
      generalize seemF raw = sf at *
      obtain ⟨f1, f2, f3, f4, f5, f6, f7, f8, f9⟩ := sf
      simp only [frC] at h20 ⊢
      generalize byL raw = b at *
      generalize byL raw' = b' at *
      generalize uL f9 = q at *
      generalize uL f.tag = q3 at *
      generalize h0 : (f1 == 0) = c0
      cases had
      · cases c0
        · simp -implicitDefEqProofs (maxSteps := 1000000) (disch := first | omega | rfl) [m8b0, hx, h20, h0, w2, ci, hz', KS, getS, getO, gS, dropW, takeW, wds, stvs, refs, refsL, refsEls, refsO, isPureEls, noExt, noExts, noExtEls, cellsL, ren, renL, keepO, keepS, keysO, refsS, refsOB, cntN, headC, boxO, row, putW, two32, -getElem?_pos]
        · cases dq <;> simp -implicitDefEqProofs (maxSteps := 1000000) (disch := first | omega | rfl) [m8b0, hx, h20, h0, hq, w2, ci, hz', KS, getS, getO, gS, dropW, takeW, wds, stvs, refs, refsL, refsEls, refsO, isPureEls, noExt, noExts, noExtEls, cellsL, ren, renL, keepO, keepS, keysO, refsS, refsOB, cntN, headC, boxO, row, putW, two32, -getElem?_pos]
      · simp -implicitDefEqProofs (maxSteps := 1000000) (disch := first | omega | rfl) [m8b0, hx, h20, w2, ci, hz', KS, getS, getO, gS, dropW, takeW, wds, stvs, refs, refsL, refsEls, refsO, isPureEls, noExt, noExts, noExtEls, cellsL, ren, renL, keepO, keepS, keysO, refsS, refsOB, cntN, headC, boxO, row, putW, two32, -getElem?_pos]
  · have e5 : helE ⟨k, raw, dr, bo, ke⟩ = false := by simp [helE, kindE, hk]
    rw [e5, Bool.false_and, Bool.or_false]
    have hk' : (k == 0) = false := by simpa using hk
    generalize goodF raw = gd at *
    generalize seemF raw = sf at *
    simp only [frC, zeF] at h20 ⊢
    generalize errF raw = er2 at *
    generalize byL raw = b at *
    generalize byL raw' = b' at *
    generalize uL z32 = q at *
    generalize uL f.tag = q3 at *
    obtain ⟨f1, f2, f3, f4, f5, f6, f7, f8, f9⟩ := sf
    simp only at h20
    generalize uL f9 = q2 at *
    cases gd
    · rw [cond_false] at h20
      cases had <;> simp -implicitDefEqProofs (maxSteps := 1000000) (disch := first | omega | rfl) [m8b0, hx, h20, hk', w2, ci, hz', KS, getS, getO, gS, dropW, takeW, wds, stvs, refs, refsL, refsEls, refsO, isPureEls, noExt, noExts, noExtEls, cellsL, ren, renL, keepO, keepS, keysO, refsS, refsOB, cntN, headC, boxO, row, putW, two32, -getElem?_pos]
    · rw [cond_true] at h20
      cases had <;> simp -implicitDefEqProofs (maxSteps := 1000000) (disch := first | omega | rfl) [m8b0, hx, h20, hk', w2, ci, hz', KS, getS, getO, gS, dropW, takeW, wds, stvs, refs, refsL, refsEls, refsO, isPureEls, noExt, noExts, noExtEls, cellsL, ren, renL, keepO, keepS, keysO, refsS, refsOB, cntN, headC, boxO, row, putW, two32, -getElem?_pos]
set_option maxHeartbeats 16000000 in
theorem endp8 (N d : Nat) (g : SL → OB → Option R) (l : List Evn) (er : Int) (had : Bool) (e : Evn) (f : Fra) (hl : l.length ≤ 300) (ho : ∀ x ∈ l, fewE x) (he : fewE e) (hhad : had = hadE e l) (hel : helE e = ((e.k == 0) && ((er == 0) && (f.kind == 0)))) :
    m8b0 (sem tab 2001 11) 2001 [] g (slp8 (evL l) er had l.length) (obp8 e f) = some (.b true, []) := by
  have h19 := W19 1001 4 l (by omega) ho
  have h19' := W19 1001 4 (l ++ [e]) (by simp; omega) (fun x hx => by
    rcases List.mem_append.1 hx with hx | hx
    · exact ho x hx
    · simp at hx; subst hx; exact he)
  have hs := clrL_snoc l [] e
  rw [List.contains_nil, Bool.false_or, ← hhad, hel] at hs
  have hS : evL (l ++ [e]) = evL l ++ [evC e] := by simp [evL]
  rw [hS, hs] at h19'
  have el := evL_len l
  have aw := allW_evc l
  have e0 : l.length ≤ 4294967296 := by omega
  have e1 : l.length + 1 ≤ 4294967296 := by omega
  have e2 : ¬ (l.length + 1 ≤ l.length) := by omega
  have t2 : List.take l.length (evL l) = evL l := by rw [← el]; exact List.take_length
  have t3 : List.take (l.length + 1) (evL l ++ [evC e]) = evL l ++ [evC e] := List.take_of_length_le (by simp [el])
  clear hs hS hel hhad ho he
  generalize clrL [] l = c at *
  generalize hfl : flatEls (evL l) = fl
  obtain ⟨k, raw, dr, bo, ke⟩ := e
  simp only [evC] at h19' t3
  simp only [slp8, obp8, bxE, bxF, evC, frC]
  obtain ⟨f1, f2, f3, f4, f5, f6, f7, f8, f9⟩ := f
  simp only at h19' ⊢
  generalize byL raw = b at *
  generalize uL f9 = q at *
  generalize evL l = xs at *
  generalize l.length = n at *
  generalize h1 : (k == 0) = q1 at *
  generalize h2 : (er == 0) = q2 at *
  generalize h3 : (f1 == 0) = q3 at *
  cases q1
  · cases c <;> simp -implicitDefEqProofs (maxSteps := 1000000) (disch := first | omega | rfl) [m8b0, h19, h19', el, aw, e0, e1, e2, t2, t3, hfl, h1, dis, KS, getS, getO, gS, dropW, takeW, wds, stvs, refs, refsL, isPureEls, isPures, isPure, noExt, noExts, noExtEls, cellsL, ren, boxO, row, two32, w64, -getElem?_pos]
  · cases q2
    · cases c <;> simp -implicitDefEqProofs (maxSteps := 1000000) (disch := first | omega | rfl) [m8b0, h19, h19', el, aw, e0, e1, e2, t2, t3, hfl, h1, h2, dis, KS, getS, getO, gS, dropW, takeW, wds, stvs, refs, refsL, isPureEls, isPures, isPure, noExt, noExts, noExtEls, cellsL, ren, boxO, row, two32, w64, -getElem?_pos]
    · cases q3
      · cases c <;> simp -implicitDefEqProofs (maxSteps := 1000000) (disch := first | omega | rfl) [m8b0, h19, h19', el, aw, e0, e1, e2, t2, t3, hfl, h1, h2, h3, dis, KS, getS, getO, gS, dropW, takeW, wds, stvs, refs, refsL, isPureEls, isPures, isPure, noExt, noExts, noExtEls, cellsL, ren, boxO, row, two32, w64, -getElem?_pos]
      · cases c
        · simp -implicitDefEqProofs (maxSteps := 1000000) (disch := first | omega | rfl) [m8b0, h19, h19', el, aw, e0, e1, e2, t2, t3, hfl, h1, h2, h3, dis, KS, getS, getO, gS, dropW, takeW, wds, stvs, refs, refsL, isPureEls, isPures, isPure, noExt, noExts, noExtEls, cellsL, ren, boxO, row, two32, w64, -getElem?_pos]
        · cases had <;> simp -implicitDefEqProofs (maxSteps := 1000000) (disch := first | omega | rfl) [m8b0, h19, h19', el, aw, e0, e1, e2, t2, t3, hfl, h1, h2, h3, dis, KS, getS, getO, gS, dropW, takeW, wds, stvs, refs, refsL, isPureEls, isPures, isPure, noExt, noExts, noExtEls, cellsL, ren, boxO, row, two32, w64, -getElem?_pos]
theorem loopp8 (l : List Evn) (er : Int) (e : Evn) (f : Fra) (hl : l.length ≤ 300) (ho : ∀ x ∈ l, fewE x) (he : fewE e) (hel : helE e = ((e.k == 0) && ((er == 0) && (f.kind == 0)))) : ∀ (k i n : Nat), i + k = l.length →
    loopC (m8b0 (sem tab 2001 11) 2001 []) (n + 1 + k) (slp8 (evL l) er (hadE e (l.take i)) i) (obp8 e f) = some (.b true, []) := by
  intro k
  induction k with
  | zero =>
    intro i n h
    have : i = l.length := by omega
    subst this
    rw [Nat.add_zero, k_loop, endp8 2001 11 _ l er _ e f hl ho he (by rw [List.take_length]) hel]
  | succ k ih =>
    intro i n h
    have hi : i < l.length := by omega
    rw [show n + 1 + (k + 1) = (n + 1 + k) + 1 by omega, k_loop, stepp8 1001 5 _ (evL l) er _ i l[i] e f (evL_get l i hi) (by rw [evL_len]; exact hi) (by rw [evL_len]; omega) (ho _ (List.getElem_mem hi))]
    have eh : (hadE e (l.take i) || (helE l[i] && (l[i].draw == e.draw))) = hadE e (l.take (i + 1)) := by
      rw [List.take_add_one, List.getElem?_eq_getElem hi, Option.toList_some]
      simp only [hadE, List.any_append, List.any_cons, List.any_nil, Bool.or_false]
    rw [eh, ih (i + 1) n (by omega)]
set_option maxHeartbeats 16000000 in
theorem clearP_law (l : List Evn) (e : Evn) (ho : ∀ x ∈ l, okEv x) (hoe : okEv e) : ∃ out, sem tab 2001 12 8 [.l false (evL l), .agg (evC e)] [] = some (.b true, out) := by
  rw [sem_succ tab 2001 11 8 m8 rfl]
  have h9 := awakeP
  have h11 : sem tab 2001 11 11 [.l false (evL l), .i .i64 40] [] = some (.b (fewV l), []) := W11 1001 10 l
  have bl := byL_len e.raw
  by_cases f : fewV l = true ∧ e.raw.length ≤ 200
  case neg =>
    rw [← bl] at f
    clear bl hoe ho
    obtain ⟨k, raw, dr, bo, ke⟩ := e
    simp only [evC] at f ⊢
    generalize fewV l = f2 at *
    generalize evL l = xs at *
    generalize byL raw = b at *
    cases f2
    · simp -implicitDefEqProofs (maxSteps := 1000000) (disch := first | omega | rfl) [m8, h9, h11, KS, getS, getO, gS, zipN, wds, refs, refsL, noExt, ren, boxO, -getElem?_pos]
    · have h1 : (b.length : Int) > 200 := by
        by_cases h : (b.length : Int) > 200
        · exact h
        · exact absurd ⟨rfl, by omega⟩ f
      simp -implicitDefEqProofs (maxSteps := 1000000) (disch := first | omega | rfl) [m8, h9, h11, h1, KS, getS, getO, gS, zipN, dropW, wds, refs, refsL, noExt, ren, boxO, -getElem?_pos]
  case pos =>
  obtain ⟨f2, f3⟩ := f
  rw [f2] at h11
  obtain ⟨fl, fb⟩ := fewV_spec f2
  have hf : ∀ x ∈ l, fewE x := fun x hx => ⟨by have := fb x hx; omega, ho x hx⟩
  have he : fewE e := ⟨by omega, hoe⟩
  have h20 := V11 1001 5 e.raw he.1 he.2
  have hz : uL z32 = List.replicate 32 (PV.i .u8 0) := by simp [uL, z32]
  obtain ⟨er, fr, h20', hel⟩ : ∃ (er : Int) (fr : Fra), sem tab 2001 11 20 [.l false (byL e.raw)] [] = some (.tup [.agg (frC fr), .i .i64 er], []) ∧ helE e = ((e.k == 0) && ((er == 0) && (fr.kind == 0))) := by
    unfold outRd okR errR at h20
    cases hg : goodF e.raw
    · rw [hg, cond_false] at h20
      have he' : (errF e.raw == 0) = false := by
        have : errF e.raw ≠ 0 := by unfold errF; split; · decide
                                    · split <;> decide
        simpa using this
      exact ⟨errF e.raw, zeF, h20, by rw [he']; simp [helE, kindE, hg]⟩
    · rw [hg, cond_true] at h20
      refine ⟨0, seemF e.raw, h20, ?_⟩
      by_cases hk : e.k = 0
      · simp [helE, kindE, hg, hk]
      · simp [helE, kindE, hk]
  have hL := loopp8 l er e fr (by omega) hf he hel l.length 0 (2000 - l.length) (by omega)
  rw [show 2000 - l.length + 1 + l.length = 2001 by omega] at hL
  have e0 : hadE e (l.take 0) = false := rfl
  rw [e0] at hL
  have bb : ¬ ((byL e.raw).length : Int) > 200 := by rw [bl]; omega
  clear h20 hf he hel e0 fb bl ho hoe hz
  simp only [slp8, obp8, bxE, bxF, show ((0 : Nat) : Int) = 0 from rfl] at hL
  obtain ⟨k, raw, dr, bo, ke⟩ := e
  obtain ⟨f1, f2', f3', f4, f5, f6, f7, f8, f9⟩ := fr
  simp only [evC, frC] at hL h20' bb ⊢
  generalize evL l = xs at *
  generalize byL raw = b at *
  generalize uL f9 = q at *
  generalize hz' : List.replicate 32 (PV.i .u8 0) = zz at *
  generalize hM : 2001 = M at *
  simp -implicitDefEqProofs (maxSteps := 1000000) (disch := first | omega | rfl) [m8, h9, h11, h20', hL, bb, hz', KS, getS, getO, gS, zipN, dropW, takeW, wds, refs, refsL, refsEls, refsO, noExt, noExts, ren, renL, keepO, keepS, keysO, refsS, refsOB, cntN, headC, boxO, putW, -getElem?_pos]
theorem Pure.PartClear (us : List PV) (h : TyAll Try.prog 8 [23, 47] us) : ∃ N d out, sem tab N d 8 us [] = some (.b true, out) := by
  simp only [TyAll] at h
  obtain ⟨v0, _, rfl, h0, v1, _, rfl, h1, rfl⟩ := h
  obtain ⟨l, hl, rfl⟩ := evs_of h0
  obtain ⟨e, he, rfl⟩ := ev_of h1
  obtain ⟨out, h⟩ := clearP_law l e hl he
  exact ⟨_, _, out, h⟩
end Go.Proofs.Ytnkapponcbgbhaa
