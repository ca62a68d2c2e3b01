/- Frames that come one behind the other are split into just them: the plain law. -/
import Derived.Test.YtmhpkdcnhgmblaaPgB
set_option linter.all false
set_option linter.unusedSimpArgs false
set_option linter.unusedVariables false
namespace Go.Proofs.Ytmhpkdcnhgmblaa
open Go
attribute [local congr] bnd_cg bndO_cg br_cg
theorem chars_lenS (a : List Int) : (chars a).length = a.length := by simp [chars]
theorem splitN_ne : ∀ (n : Nat) (b : List Int), (∀ x ∈ b, 0 ≤ x ∧ x ≤ 255) → (∀ x ∈ (splitN n b).1, x ≠ [] ∧ x.length ≤ b.length) ∧ (splitN n b).1.length ≤ n
  | 0, b, _ => ⟨fun x h => by simp [splitN] at h, Nat.le_refl _⟩
  | n + 1, b, hr => by
    unfold splitN
    by_cases c : longF b = -1
    · rw [if_pos c]; exact ⟨fun x h => by simp at h, by simp⟩
    · rw [if_neg c]
      have hc := long_cases b hr
      obtain ⟨h1, h2⟩ := splitN_ne n (b.drop (longF b).toNat) (fun x hx => hr x (List.mem_of_mem_drop hx))
      refine ⟨fun x hx => ?_, by simpa using h2⟩
      rcases List.mem_cons.1 hx with rfl | hx
      · refine ⟨fun e => ?_, by rw [List.length_take]; omega⟩
        have := congrArg List.length e
        rw [List.length_take, List.length_nil] at this
        omega
      · have := h1 x hx
        rw [List.length_drop] at this
        exact ⟨this.1, by omega⟩
theorem flat_ge : ∀ (l : List Fra), (∀ f ∈ l, PlF f ∧ okF f) → l.length ≤ (l.map putF).flatten.length ∧ (l.map putF).flatten.length ≤ 54 * l.length
  | [], _ => ⟨Nat.le_refl _, by simp⟩
  | f :: l, h => by
    obtain ⟨h1, h2⟩ := flat_ge l (fun g hg => h g (by simp [hg]))
    have hf := h f (by simp)
    have := putF_len f hf.1.kind hf.2.tag
    have := szF_le f.kind
    simp only [List.map_cons, List.flatten_cons, List.length_append, List.length_cons]
    omega
theorem flat_range : ∀ (l : List Fra), (∀ f ∈ l, okF f) → ∀ x ∈ (l.map putF).flatten, 0 ≤ x ∧ x ≤ 255
  | [], _, x, hx => by simp at hx
  | f :: l, h, x, hx => by
    simp only [List.map_cons, List.flatten_cons, List.mem_append] at hx
    rcases hx with hx | hx
    · exact putF_range f (h f (by simp)).tagr x hx
    · exact flat_range l (fun g hg => h g (by simp [hg])) x hx
theorem take_flat (xs : List (List Int)) (i : Nat) : (xs.take i).flatten.length ≤ xs.flatten.length := by
  have := congrArg (fun l => (List.flatten l).length) (List.take_append_drop i xs)
  simp only [List.flatten_append, List.length_append] at this
  omega
theorem take_next {α : Type} (xs : List α) (i : Nat) (h : i < xs.length) : xs.take (i + 1) = xs.take i ++ [xs[i]] := by
  rw [List.take_succ, List.getElem?_eq_getElem h]; rfl
theorem loopJ (Φ : Sem') (N : Nat) (l b : List (List PV)) (k : Int) (f : Fra) (xs : List (List Int)) (r : List (List PV)) (m : Nat) (hxs : ∀ x ∈ xs, x ≠ [] ∧ x.length ≤ 1000) (hn : xs.length ≤ 1000) (hfl : xs.flatten.length ≤ 1000) : ∀ (j i e : Nat), i + j = xs.length →
    loopC (m4b1 Φ N []) (e + 1 + j) (slJ l k b xs.length m (byL (xs.take i).flatten).length i) (obJ f (rwL xs) r (byL (xs.take i).flatten)) = m4b1 Φ N [] (loopC (m4b1 Φ N []) e) (slJ l k b xs.length m (byL xs.flatten).length xs.length) (obJ f (rwL xs) r (byL xs.flatten)) := by
  intro j
  induction j with
  | zero =>
    intro i e h
    have : i = xs.length := by omega
    subst this
    rw [Nat.add_zero, k_loop, List.take_length]
  | succ j ih =>
    intro i e h
    have hi : i < xs.length := by omega
    have hx := hxs xs[i] (List.getElem_mem hi)
    have tf := take_flat xs i
    rw [← Nat.add_assoc, k_loop, stepJ Φ N _ l b k f xs r _ m i xs[i] (by simp [hi]) hx.1 hn (by rw [byL_len]; omega) (by omega)]
    have e1 : byL (xs.take i).flatten ++ byL xs[i] = byL (xs.take (i + 1)).flatten := by
      rw [take_next xs i hi, List.flatten_append]; simp [byL]
    rw [e1]
    exact ih (i + 1) e (by omega)
set_option maxHeartbeats 4000000 in
theorem loopAs (l : List Fra) (k : Int) (f : Fra) (hl : ∀ g ∈ l, okF g) (hf : okF f) (hn : l.length ≤ 12) : ∀ (j i e : Nat), i + j = l.length → (∀ g ∈ l.take i, plainF g = true) →
    loopC (m4b0 (sem tab 1000 8) 1000 []) (e + 1 + j) (slA (l.map frC) k (rwL ((l.take i).map putF)).length (byL ((l.take i).map putF).flatten).length i) (obA f (rwL ((l.take i).map putF)) (byL ((l.take i).map putF).flatten)) = some (.b true, []) := by
  intro j
  induction j with
  | zero =>
    intro i e h hp
    have : i = l.length := by omega
    subst this
    rw [List.take_length] at hp ⊢
    rw [Nat.add_zero, k_loop]
    have h10 := V10L f hf
    by_cases hc : plainF f = true ∧ 0 ≤ k ∧ k < ((putF f).length : Int)
    · obtain ⟨c1, c2, c3⟩ := hc
      rw [c1] at h10
      have hP := (plainF_iff f).1 c1
      have hall : ∀ g ∈ l, PlF g ∧ okF g := fun g hg => ⟨(plainF_iff g).1 (hp g hg), hl g hg⟩
      obtain ⟨f1, f2⟩ := flat_ge l hall
      obtain ⟨k', rfl⟩ : ∃ k' : Nat, k = k' := ⟨k.toNat, by omega⟩
      have ln := putF_len f hP.kind hf.tag
      have sz := szF_le f.kind
      have hk : k' < (putF f).length := by omega
      have h12 := V12 0 3 ((l.map putF).flatten ++ (putF f).take k') (by rw [List.length_append, List.length_take]; omega) (fun x hx => by
        rcases List.mem_append.1 hx with hx | hx
        · exact flat_range l hl x hx
        · exact putF_range f hf.tagr x (List.mem_of_mem_take hx))
      rw [splitN_puts ((putF f).take k') (long_cut f hP.kind hf.tag k' hk) l hall _ (by rw [List.length_append]; omega)] at h12
      have h13 := V13e 0 7 (l.map putF) (by rw [List.length_map]; omega)
      have := endAf (sem tab 1000 8) 1000 (loopC (m4b0 (sem tab 1000 8) 1000 []) e) l k' f (l.map putF) (l.map putF).flatten (putF f) hk (by omega) (by omega) (by rw [List.length_map]; omega) h10 h12 h13
      rw [rwL_len, byL_len]
      exact this
    · exact endA0f (sem tab 1000 8) 1000 _ l k f _ _ _ _ (plainF f) (putF f) (fun c1 => by
        by_cases c2 : k < 0
        · exact .inl c2
        · right
          by_cases c3 : k < ((putF f).length : Int)
          · exact absurd ⟨c1, by omega, c3⟩ hc
          · omega) h10
  | succ j ih =>
    intro i e h hp
    have hi : i < l.length := by omega
    have h10 := V10L l[i] (hl _ (List.getElem_mem hi))
    rw [← Nat.add_assoc, k_loop]
    cases c : plainF l[i]
    · rw [c, cond_false] at h10
      exact failAf (sem tab 1000 8) 1000 _ l k f l[i] _ _ i _ _ (by simp [hi]) (by omega) h10
    · rw [c, cond_true] at h10
      have hP := (plainF_iff _).1 c
      have hof := hl _ (List.getElem_mem hi)
      have ln := putF_len l[i] hP.kind hof.tag
      have sz := szF_le l[i].kind
      have hall : ∀ g ∈ l.take i, PlF g ∧ okF g := fun g hg => ⟨(plainF_iff g).1 (hp g hg), hl g (List.mem_of_mem_take hg)⟩
      obtain ⟨f1, f2⟩ := flat_ge (l.take i) hall
      rw [List.length_take] at f1 f2
      rw [stepAf (sem tab 1000 8) 1000 _ l k f l[i] (rwL ((l.take i).map putF)) (byL ((l.take i).map putF).flatten) i (putF l[i]) (by simp [hi]) (by omega) (by rw [rwL_len, List.length_map, List.length_take]; omega) (by rw [byL_len]; omega) (allW_rw _) (fun e => by rw [e] at ln; simp at ln) (by omega) h10]
      have e1 : rwL ((l.take i).map putF) ++ [[PV.l true (byL (putF l[i]))]] = rwL ((l.take (i + 1)).map putF) := by
        rw [rwL_app, take_next l i hi, List.map_append]; rfl
      have e2 : byL ((l.take i).map putF).flatten ++ byL (putF l[i]) = byL ((l.take (i + 1)).map putF).flatten := by
        rw [byL_app, take_next l i hi, List.map_append, List.flatten_append]
        simp only [List.map_cons, List.map_nil, List.flatten_cons, List.flatten_nil, List.append_nil]
      rw [e1, e2]
      exact ih (i + 1) e (by omega) (fun g hg => by
        rw [take_next l i hi] at hg
        rcases List.mem_append.1 hg with hg | hg
        · exact hp g hg
        · rw [List.mem_singleton] at hg; rw [hg]; exact c)
set_option maxHeartbeats 16000000 in
theorem split_law (l : List Fra) (f : Fra) (k : Int) (b : List Int) (hl : ∀ g ∈ l, okF g) (hf : okF f) (hr : ∀ x ∈ b, 0 ≤ x ∧ x ≤ 255) : sem tab 1000 9 4 [.l false (frL l), .agg (frC f), .i .i64 k, .l false (byL b)] [] = some (.b true, []) := by
  rw [sem_succ tab 1000 8 4 m4 rfl]
  have h9 := awake4
  have bl := byL_len b
  have ll : (frL l).length = l.length := by simp [frL]
  by_cases c0 : (l.length : Int) > 12 ∨ (b.length : Int) > 400
  · rw [← bl, ← ll] at c0
    obtain ⟨a1, a2, a3, a4, a5, a6, a7, a8, a9⟩ := f
    simp only [frC]
    generalize uL a9 = q at *
    generalize byL b = y at *
    generalize frL l = L at *
    rcases c0 with c0 | c0
    · simp -implicitDefEqProofs (maxSteps := 1000000) (disch := first | omega | rfl) [m4, h9, c0, boxO, KF, KS, getS, getO, gS, zipN, dropW, takeW, wds, stvs, sea, seaL, refs, refsL, refsEls, refsO, isPureEls, isPures, isPure, noExt, noExts, noExtEls, cellsL, ren, renL, renEls, keepO, keepS, keysO, refsS, refsOB, headC, setS, boxO, row, putW, putB, putB1, eNl, newOs, frz, renO, noExtO, zps, zp, two32, w64, -getElem?_pos, k_cnt, k_cnt0]
    · by_cases c1 : (L.length : Int) > 12
      · simp -implicitDefEqProofs (maxSteps := 1000000) (disch := first | omega | rfl) [m4, h9, c1, boxO, KF, KS, getS, getO, gS, zipN, dropW, takeW, wds, stvs, sea, seaL, refs, refsL, refsEls, refsO, isPureEls, isPures, isPure, noExt, noExts, noExtEls, cellsL, ren, renL, renEls, keepO, keepS, keysO, refsS, refsOB, headC, setS, boxO, row, putW, putB, putB1, eNl, newOs, frz, renO, noExtO, zps, zp, two32, w64, -getElem?_pos, k_cnt, k_cnt0]
      · simp -implicitDefEqProofs (maxSteps := 1000000) (disch := first | omega | rfl) [m4, h9, c0, c1, boxO, KF, KS, getS, getO, gS, zipN, dropW, takeW, wds, stvs, sea, seaL, refs, refsL, refsEls, refsO, isPureEls, isPures, isPure, noExt, noExts, noExtEls, cellsL, ren, renL, renEls, keepO, keepS, keysO, refsS, refsOB, headC, setS, boxO, row, putW, putB, putB1, eNl, newOs, frz, renO, noExtO, zps, zp, two32, w64, -getElem?_pos, k_cnt, k_cnt0]
  have n1 : ¬ (l.length : Int) > 12 := fun h => c0 (.inl h)
  have n2 : ¬ (b.length : Int) > 400 := fun h => c0 (.inr h)
  have h12 := V12 0 3 b (by omega) hr
  obtain ⟨x1, x2⟩ := splitN_ne b.length b hr
  have hall := splitN_all b.length b
  generalize (splitN b.length b).1 = xs at *
  generalize (splitN b.length b).2 = r at *
  have hlen : xs.flatten.length + r.length = b.length := by rw [← List.length_append, hall]
  have hj := loopJ (sem tab 1000 8) 1000 (frL l) (byL b) k f xs (byL r) r.length (fun x hx => ⟨(x1 x hx).1, by have := (x1 x hx).2; omega⟩) (by omega) (by omega) xs.length 0 (999 - xs.length) (by omega)
  rw [show 999 - xs.length + 1 + xs.length = 1000 by omega] at hj
  have hs : chars b = chars xs.flatten ++ chars r := by rw [← hall]; simp [chars]
  have lx := rwL_len xs
  have he := endJ (sem tab 1000 8) 1000 (loopC (m4b1 (sem tab 1000 8) 1000 []) (999 - xs.length)) (frL l) (byL b) k f (rwL xs) (byL r) (byL xs.flatten) (chars xs.flatten) (chars r) (unB_by _) (unB_by _) (by rw [unB_by, hs]) (by rw [chars_lenS, chars_lenS]; omega) (by omega)
  rw [lx, byL_len r] at he
  have ha := loopAs l k f hl hf (by omega) l.length 0 (999 - l.length) (by omega) (fun g hg => by simp at hg)
  rw [show 999 - l.length + 1 + l.length = 1000 by omega] at ha
  have hz : (rwL ((l.take 0).map putF)) = [] := rfl
  have hz2 : (byL ((l.take 0).map putF).flatten) = [] := rfl
  rw [hz, hz2] at ha
  have hfin := hj.trans (he.trans ha)
  clear hj he ha hz hz2 hs hall x1 x2 hlen
  have tr := take_put r
  have tx : List.take xs.length (rwL xs) = rwL xs := List.take_of_length_le (by omega)
  have rl := byL_len r
  rw [show byL (xs.take 0).flatten = [] from rfl] at hfin
  unfold outSf at h12
  rw [k_loop] at hfin
  rw [← bl] at n2
  rw [← ll] at n1
  generalize byL b = y at *
  generalize byL r = z at *
  generalize rwL xs = R at *
  generalize xs.length = n at *
  generalize r.length = m at *
  generalize frL l = L at *
  obtain ⟨a1, a2, a3, a4, a5, a6, a7, a8, a9⟩ := f
  simp only [slJ, obJ, fbox, frC, row, box, List.length_nil] at *
  generalize uL a9 = q at *
  rw [show ((0 : Nat) : Int) = 0 from rfl] at hfin
  simp -implicitDefEqProofs (maxSteps := 1000000) (disch := first | omega | rfl) [m4, h9, h12, n1, n2, hfin, lx, rl, boxO, KF, KS, getS, getO, gS, zipN, dropW, takeW, wds, stvs, sea, seaL, refs, refsL, refsEls, refsO, isPureEls, isPures, isPure, noExt, noExts, noExtEls, cellsL, ren, renL, renEls, keepO, keepS, keysO, refsS, refsOB, headC, setS, boxO, row, putW, putB, putB1, eNl, newOs, frz, renO, noExtO, zps, zp, two32, w64, -getElem?_pos, k_cnt, k_cnt0]
theorem Pure.FrameSplit (us : List PV) (h : TyAll Try.prog 8 [35, 26, 3, 27] us) : ∃ N d out, sem tab N d 4 us [] = some (.b true, out) := by
  simp only [TyAll] at h
  obtain ⟨v0, _, rfl, h0, v1, _, rfl, h1, v2, _, rfl, h2, v3, _, rfl, h3, rfl⟩ := h
  obtain ⟨l, hl, rfl⟩ := frames_of h0
  obtain ⟨f, hf, rfl⟩ := frame_of h1
  obtain ⟨k, _, _, rfl⟩ := int_of h2
  obtain ⟨b, hb, rfl⟩ := bytes_of h3
  exact ⟨1000, 9, [], split_law l f k b hl hf hb⟩
end Go.Proofs.Ytmhpkdcnhgmblaa
