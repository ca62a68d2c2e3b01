/- Plain lemmas of users: what is found, of fewer, of more. -/
import Derived.Test.YtcimkkcajkmfoaaDoorPureTu
import Derived.Test.YtcimkkcajkmfoaaDoorPureRef
set_option linter.all false
set_option linter.unusedSimpArgs false
set_option linter.unusedVariables false
namespace Go.Proofs.YtcimkkcajkmfoaaDoor
open Go
theorem may_from {l : List Us} (h : mayU l = true) : mayFrom 0 l = true ∧ l.length ≤ 8 := by
  simpa [mayU] using h
theorem may_role : ∀ (l : List Us) (p : Int), mayFrom p l = true → ∀ u ∈ l, roleB u.2.1 = true
  | [], _, _, u, h => by cases h
  | x :: r, p, hm, u, h => by
    simp only [mayFrom, okU, Bool.and_eq_true] at hm
    rcases List.mem_cons.1 h with rfl | h
    · exact hm.1.2.1
    · exact may_role r _ hm.2 u h
/-- Who stands somewhere is found there. -/
theorem find_at {l : List Us} (hm : mayU l = true) {i : Nat} {u : Us} (hu : l[i]? = some u) : findU l u.1 = i ∧ roleU l u.1 = u.2.1 ∧ roleB u.2.1 = true := by
  obtain ⟨h1, h2⟩ := may_from hm
  have hlt := (List.getElem?_eq_some_iff.1 hu).1
  have hr := may_role l 0 h1 u (List.mem_of_getElem? hu)
  rcases find_cases l u.1 with ⟨g1, _⟩ | ⟨k, v, g1, g2, g3, _, g5⟩
  · exfalso
    have : ¬ (mayU l = true ∧ l.findIdx (fun x => x.1 == u.1) < l.length) := by
      intro h
      simp only [findU] at g1
      rw [if_pos h] at g1
      omega
    apply this
    refine ⟨hm, ?_⟩
    rw [List.findIdx_lt_length]
    exact ⟨u, List.mem_of_getElem? hu, by simp⟩
  · have hk : k = i := by
      rcases Nat.lt_trichotomy k i with h | h | h
      · have := (may_sorted l 0 h1 i u hu).2 k v h g2; omega
      · exact h
      · have := (may_sorted l 0 h1 k v g2).2 i u h hu; omega
    subst hk
    rw [g2] at hu
    injection hu with hu
    subst hu
    exact ⟨g1, g5, hr⟩
theorem find_none {l : List Us} {no : Int} (h : ∀ u ∈ l, u.1 ≠ no) : findU l no = -1 ∧ roleU l no = -1 := by
  rcases find_cases l no with h1 | ⟨k, v, _, g2, g3, _⟩
  · exact h1
  · exact absurd g3 (h v (List.mem_of_getElem? g2))
theorem role_same {l m : List Us} {no : Int} (hl : mayU l = true) (hm : mayU m = true) (h : ∀ u : Us, u.1 = no → (u ∈ l ↔ u ∈ m)) : roleU l no = roleU m no := by
  rcases find_cases l no with ⟨_, h1⟩ | ⟨k, v, _, g2, g3, _, g5⟩
  · rcases find_cases m no with ⟨_, h2⟩ | ⟨k, v, _, g2, g3, _, g5⟩
    · rw [h1, h2]
    · exfalso
      have hv := (h v g3).2 (List.mem_of_getElem? g2)
      obtain ⟨i, hi⟩ := List.getElem?_of_mem hv
      have := find_at hl hi
      rw [g3] at this
      have hf := this.1
      have hr := this.2.1
      rcases find_cases l no with ⟨e1, _⟩ | ⟨_, _, e1, _⟩
      · omega
      · have hb := this.2.2
        simp only [roleB, Bool.and_eq_true, decide_eq_true_eq] at hb
        omega
  · have hv := (h v g3).1 (List.mem_of_getElem? g2)
    obtain ⟨i, hi⟩ := List.getElem?_of_mem hv
    have := find_at hm hi
    rw [g3] at this
    rw [g5, this.2.1]
theorem may_less : ∀ (l : List Us) (p q : Int), p ≤ q → mayFrom q l = true → mayFrom p l = true
  | [], _, _, _, _ => rfl
  | x :: r, p, q, h, hm => by
    simp only [mayFrom, okU, inB, Bool.and_eq_true, decide_eq_true_eq] at hm ⊢
    exact ⟨⟨by omega, hm.1.2⟩, hm.2⟩
theorem may_erase : ∀ (l : List Us) (p : Int) (i : Nat), mayFrom p l = true → mayFrom p (l.take i ++ l.drop (i + 1)) = true
  | [], _, _, _ => by simp [mayFrom]
  | x :: r, p, 0, hm => by
    simp only [mayFrom, Bool.and_eq_true] at hm
    have hx : p ≤ x.1 := by
      have := hm.1
      simp only [okU, inB, Bool.and_eq_true, decide_eq_true_eq] at this
      omega
    simpa using may_less r p x.1 hx hm.2
  | x :: r, p, i + 1, hm => by
    simp only [mayFrom, Bool.and_eq_true] at hm
    simp only [List.take_succ_cons, List.drop_succ_cons, List.cons_append, mayFrom, Bool.and_eq_true]
    exact ⟨hm.1, may_erase r x.1 i hm.2⟩
/-- The greatest number, behind p. -/
def lastU : Int → List Us → Int
  | p, [] => p
  | _, x :: r => lastU x.1 r
theorem may_snoc : ∀ (l : List Us) (p : Int) (u : Us), mayFrom p (l ++ [u]) = (mayFrom p l && okU (lastU p l) u)
  | [], p, u => by simp [mayFrom, lastU]
  | x :: r, p, u => by simp only [List.cons_append, mayFrom, lastU, may_snoc r x.1 u, Bool.and_assoc]
theorem last_ge : ∀ (l : List Us) (p : Int), mayFrom p l = true → p ≤ lastU p l
  | [], p, _ => by simp [lastU]
  | x :: r, p, hm => by
    simp only [mayFrom, okU, inB, Bool.and_eq_true, decide_eq_true_eq] at hm
    have := last_ge r x.1 hm.2
    simp only [lastU]; omega
theorem last_get : ∀ (l : List Us) (p : Int) (u : Us), l[l.length - 1]? = some u → lastU p l = u.1
  | [], p, u, h => by simp at h
  | [x], p, u, h => by simp at h; simp [lastU, h]
  | x :: y :: r, p, u, h => by
    simp only [lastU]
    exact last_get (y :: r) x.1 u (by simpa using h)
theorem ok_last (p : Int) (u : Us) (h : 0 ≤ p) : okU p u = (decide (p < u.1) && okU 0 u) := by
  rw [Bool.eq_iff_iff]
  simp only [okU, inB, Bool.and_eq_true, decide_eq_true_eq]
  constructor
  · rintro ⟨⟨h1, h2⟩, h3⟩
    exact ⟨by omega, ⟨by omega, h2⟩, h3⟩
  · rintro ⟨h0, ⟨h1, h2⟩, h3⟩
    exact ⟨⟨by omega, h2⟩, h3⟩
set_option maxHeartbeats 8000000 in
/-- A session's key, in the document. -/
theorem U29 (M d : Nat) (u : Us) (e dr cn : Int) (hk : u.2.2.length ≤ 57000) (hb : ∀ n ∈ u.2.2, 0 ≤ n ∧ n ≤ 255) (hd : u64B dr) (hc : u64B cn) : sem tab (M + 1000) (d + 10) 18 [.agg (uC u), .i .i64 e, .i .u64 dr, .i .u64 cn] [] = some (.tup [.agg [.blob 32 (uL (secI u e dr cn))], .b (secB u e)], []) := by
  rw [sem_succ tab (M + 1000) (d + 9) 18 m18 rfl]
  have h32 : sem tab (M + 1000) (d + 9) 19 [.l false [uC u]] [] = _ := U30u M (d + 7) [u] (by simp)
  rw [may1] at h32
  cases hs : secB u e
  · have hI : secI u e dr cn = List.replicate 32 0 := by unfold secI; rw [hs]; simp
    rw [hI, uL_zero]
    have hs' : (okU 0 u && (decide (0 ≤ e) && decide (e ≤ 1073741824))) = false := hs
    obtain ⟨no, r, ks⟩ := u
    simp only [uC] at h32 ⊢
    generalize byL ks = b at *
    generalize hz : List.replicate 32 (PV.i IntKind.u8 0) = zz at *
    cases g1 : okU 0 (no, r, ks)
    · rw [g1] at h32
      simp -implicitDefEqProofs (maxSteps := 1000000) (disch := first | omega | rfl) [m18, hz, h32, KS, getS, getO, gS, zipN, dropW, takeW, wds, stvs, sea, seaL, refs, refsL, refsEls, refsO, isPureEls, isPures, isPure, noExt, noExts, noExtEls, cellsL, ren, renL, renEls, keepO, keepS, keysO, refsS, refsOB, cntN, headC, setS, boxO, row, putW, putB, putB1, eNl, newOs, frz, renO, noExtO, zps, zp, two32, w64, -getElem?_pos]
    · rw [g1] at h32 hs'
      by_cases g2 : e < 0
      · simp -implicitDefEqProofs (maxSteps := 1000000) (disch := first | omega | rfl) [m18, hz, h32, g2, KS, getS, getO, gS, zipN, dropW, takeW, wds, stvs, sea, seaL, refs, refsL, refsEls, refsO, isPureEls, isPures, isPure, noExt, noExts, noExtEls, cellsL, ren, renL, renEls, keepO, keepS, keysO, refsS, refsOB, cntN, headC, setS, boxO, row, putW, putB, putB1, eNl, newOs, frz, renO, noExtO, zps, zp, two32, w64, -getElem?_pos]
      · have g3 : e > 1073741824 := by
          by_cases h : e ≤ 1073741824
          · simp [h, show 0 ≤ e by omega] at hs'
          · omega
        have g3' : 1073741824 < e := g3
        simp -implicitDefEqProofs (maxSteps := 1000000) (disch := first | omega | rfl) [m18, hz, h32, g2, g3, g3', KS, getS, getO, gS, zipN, dropW, takeW, wds, stvs, sea, seaL, refs, refsL, refsEls, refsO, isPureEls, isPures, isPure, noExt, noExts, noExtEls, cellsL, ren, renL, renEls, keepO, keepS, keysO, refsS, refsOB, cntN, headC, setS, boxO, row, putW, putB, putB1, eNl, newOs, frz, renO, noExtO, zps, zp, two32, w64, -getElem?_pos]
  · have hI : secI u e dr cn = derI u.2.2 sesS (catB (sesN u e dr cn)) := by unfold secI; rw [hs]; simp
    rw [hI]
    obtain ⟨s1, s2, s3, s4, s5⟩ := ses_ok hs hd hc
    have h39 := U90c (M + 900) (d + 6) (sesN u e dr cn) (by simp [sesN]) s1
    rw [s2, cond_true, s3, show M + 900 + 100 = M + 1000 by omega] at h39
    have h33 := L34 M d u.2.2 (catB (sesN u e dr cn)) sesS hk (by omega) hb (catB_range _)
    rw [show decide (1 ≤ sesS.length ∧ sesS.length ≤ 32) = true by decide] at h33
    have hcl := byL_len (catB (sesN u e dr cn))
    rw [s3] at hcl
    generalize uL (derI u.2.2 sesS (catB (sesN u e dr cn))) = T at *
    generalize byL (catB (sesN u e dr cn)) = c at *
    obtain ⟨no, r, ks⟩ := u
    simp only at s5
    simp only [secB, Bool.and_eq_true] at hs
    rw [hs.1] at h32
    have g2 : ¬ e < 0 := by omega
    have g3 : ¬ e > 1073741824 := by omega
    have g3' : ¬ 1073741824 < e := by omega
    have h39' : sem tab (M + 1000) (d + 9) 49 [.l false [[.i .u64 e, .i .i64 4], [.i .u64 dr, .i .i64 8], [.i .u64 cn, .i .i64 8], [.i .u64 no, .i .i64 1]]] [] = some (.tup [.sl 0 0 0 21, .b true], [row c 1 true]) := h39
    simp only [uC, sesS] at h32 h33 ⊢
    generalize byL ks = b at *
    generalize hz : List.replicate 32 (PV.i IntKind.u8 0) = zz at *
    have w1 : IntKind.u64.wrap e = e := by rw [IntKind.wrap_u64]; omega
    have w2 : IntKind.u64.wrap no = no := by rw [IntKind.wrap_u64]; omega
    have tk : List.take 21 c = c := List.take_of_length_le (by omega)
    clear h39 s1 s2 s3
    simp -implicitDefEqProofs (maxSteps := 1000000) (disch := first | omega | rfl) [m18, hz, h32, h39', h33, w1, w2, tk, hcl, g2, g3, g3', KS, getS, getO, gS, zipN, dropW, takeW, wds, stvs, sea, seaL, refs, refsL, refsEls, refsO, isPureEls, isPures, isPure, noExt, noExts, noExtEls, cellsL, ren, renL, renEls, keepO, keepS, keysO, refsS, refsOB, cntN, headC, setS, boxO, row, putW, putB, putB1, eNl, newOs, frz, renO, noExtO, zps, zp, two32, w64, -getElem?_pos]
end Go.Proofs.YtcimkkcajkmfoaaDoor
