/- Plain lemmas of users. -/
import Derived.Test.YtcimkkcajkmfoaaDoorPureBase
import Derived.Test.YtcimkkcajkmfoaaDoorPureMac
import Derived.KernelRfl
set_option linter.all false
set_option linter.unusedSimpArgs false
set_option linter.unusedVariables false
namespace Go.Proofs.YtcimkkcajkmfoaaDoor
open Go
/-! ## PureUa -/
section
/-- Users: number, role, key. -/
abbrev Us := Int × Int × List Int
def uC (u : Us) : List PV := [.i .i64 u.1, .i .i64 u.2.1, .l false (byL u.2.2)]
def usL (l : List Us) : List (List PV) := l.map uC
theorem usL_len (l : List Us) : (usL l).length = l.length := by simp [usL]
theorem usL_get (l : List Us) (i : Nat) (h : i < l.length) : (usL l)[i]? = some (uC l[i]) := by simp [usL, h]
theorem allW_us (l : List Us) : allW 3 (usL l) = true := by
  induction l with
  | nil => rfl
  | cons x r ih => simp only [usL, List.map_cons, uC, allW, wds, wd]; exact ih
def inB (a b c : Int) : Bool := decide (b ≤ a) && decide (a ≤ c)
def roleB (r : Int) : Bool := decide (0 ≤ r) && decide (r < 4)
theorem U89 (N d : Nat) (a b c : Int) : sem tab N (d + 1) 48 [.i .i64 a, .i .i64 b, .i .i64 c] [] = some (.b (inB a b c), []) := by
  rw [sem_succ tab N d 48 m48 rfl]
  by_cases h : b ≤ a <;> simp -implicitDefEqProofs (disch := first | omega | rfl) [m48, inB, h, KS, getS, getO, gS, zipN, dropW, takeW, wds, stvs, sea, seaL, refs, refsL, refsEls, refsO, isPureEls, isPures, isPure, noExt, noExts, noExtEls, cellsL, ren, renL, renEls, keepO, keepS, keysO, refsS, refsOB, cntN, headC, setS, boxO, row, putW, putB, putB1, eNl, newOs, frz, renO, noExtO, zps, zp, two32, w64, -getElem?_pos]
theorem U38r (N d : Nat) (a : Int) : sem tab N (d + 1) 27 [.i .i64 a] [] = some (.b (roleB a), []) := by
  rw [sem_succ tab N d 27 m27 rfl]
  by_cases h : 0 ≤ a <;> simp -implicitDefEqProofs (disch := first | omega | rfl) [m27, roleB, h, KS, getS, getO, gS, zipN, dropW, takeW, wds, stvs, sea, seaL, refs, refsL, refsEls, refsO, isPureEls, isPures, isPure, noExt, noExts, noExtEls, cellsL, ren, renL, renEls, keepO, keepS, keysO, refsS, refsOB, cntN, headC, setS, boxO, row, putW, putB, putB1, eNl, newOs, frz, renO, noExtO, zps, zp, two32, w64, -getElem?_pos]
theorem U92 (N d : Nat) (a : Int) : sem tab N (d + 1) 51 [.i .i64 a] [] = some (.b (roleB a), []) := by
  rw [sem_succ tab N d 51 m51 rfl]
  by_cases h : 0 ≤ a <;> simp -implicitDefEqProofs (disch := first | omega | rfl) [m51, roleB, h, KS, getS, getO, gS, zipN, dropW, takeW, wds, stvs, sea, seaL, refs, refsL, refsEls, refsO, isPureEls, isPures, isPure, noExt, noExts, noExtEls, cellsL, ren, renL, renEls, keepO, keepS, keysO, refsS, refsOB, cntN, headC, setS, boxO, row, putW, putB, putB1, eNl, newOs, frz, renO, noExtO, zps, zp, two32, w64, -getElem?_pos]
/-- May a user stand behind one of the number p? -/
def okU (p : Int) (u : Us) : Bool := inB u.1 (p + 1) 255 && (roleB u.2.1 && inB u.2.2.length 16 64)
def mayFrom : Int → List Us → Bool
  | _, [] => true
  | p, u :: r => okU p u && mayFrom u.1 r
def mayU (l : List Us) : Bool := mayFrom 0 l && decide (l.length ≤ 8)
def slu32 (xs : List (List PV)) (n : Nat) (p : Int) (i : Nat) : SL := [(0, .l false xs), (3, .i .i64 p), (4, .b false), (7, .l false xs), (8, .i .i64 n), (9, .i .i64 i)]
theorem w64n {i : Nat} (h : i < 1000000) : IntKind.i64.wrap ((i : Int) + 1) = ((i + 1 : Nat) : Int) := by rw [w64 (by omega) (by omega)]; omega
set_option maxHeartbeats 4000000 in
theorem stepu32 (N d : Nat) (g : SL → OB → Option R) (xs : List (List PV)) (n : Nat) (p : Int) (i : Nat) (u : Us) (hx : xs[i]? = some (uC u)) (hi : i < n) (hn : n < 1000000) (hp : 0 ≤ p ∧ p ≤ 255) :
    m21b2 (sem tab N (d + 1)) N [] g (slu32 xs n p i) [] = cond (okU p u) (g (slu32 xs n u.1 (i + 1)) []) (some (.b false, [])) := by
  obtain ⟨no, r, ks⟩ := u
  have h1 := fun a b c => U89 N d a b c
  have h2 := fun a => U38r N d a
  have w1 : IntKind.i64.wrap (p + 1) = p + 1 := w64 (by omega) (by omega)
  have w2 := w64n (i := i) (by omega)
  have hl := byL_len ks
  have ci : (i : Int) < n := by omega
  simp only [okU, uC] at hx ⊢
  rw [← hl]
  generalize byL ks = b at *
  cases b1 : inB no (p + 1) 255
  · simp -implicitDefEqProofs (maxSteps := 1000000) (disch := first | omega | rfl) [m21b2, slu32, hx, h1, h2, w1, w2, ci, b1, KS, getS, getO, gS, zipN, dropW, takeW, wds, stvs, sea, seaL, refs, refsL, refsEls, refsO, isPureEls, isPures, isPure, noExt, noExts, noExtEls, cellsL, ren, renL, renEls, keepO, keepS, keysO, refsS, refsOB, cntN, headC, setS, boxO, row, putW, putB, putB1, eNl, newOs, frz, renO, noExtO, zps, zp, two32, w64, -getElem?_pos]
  · cases b2 : roleB r
    · simp -implicitDefEqProofs (maxSteps := 1000000) (disch := first | omega | rfl) [m21b2, slu32, hx, h1, h2, w1, w2, ci, b1, b2, KS, getS, getO, gS, zipN, dropW, takeW, wds, stvs, sea, seaL, refs, refsL, refsEls, refsO, isPureEls, isPures, isPure, noExt, noExts, noExtEls, cellsL, ren, renL, renEls, keepO, keepS, keysO, refsS, refsOB, cntN, headC, setS, boxO, row, putW, putB, putB1, eNl, newOs, frz, renO, noExtO, zps, zp, two32, w64, -getElem?_pos]
    · cases b3 : inB b.length 16 64
      · simp -implicitDefEqProofs (maxSteps := 1000000) (disch := first | omega | rfl) [m21b2, slu32, hx, h1, h2, w1, w2, ci, b1, b2, b3, KS, getS, getO, gS, zipN, dropW, takeW, wds, stvs, sea, seaL, refs, refsL, refsEls, refsO, isPureEls, isPures, isPure, noExt, noExts, noExtEls, cellsL, ren, renL, renEls, keepO, keepS, keysO, refsS, refsOB, cntN, headC, setS, boxO, row, putW, putB, putB1, eNl, newOs, frz, renO, noExtO, zps, zp, two32, w64, -getElem?_pos]
      · simp -implicitDefEqProofs (maxSteps := 1000000) (disch := first | omega | rfl) [m21b2, slu32, hx, h1, h2, w1, w2, ci, b1, b2, b3, KS, getS, getO, gS, zipN, dropW, takeW, wds, stvs, sea, seaL, refs, refsL, refsEls, refsO, isPureEls, isPures, isPure, noExt, noExts, noExtEls, cellsL, ren, renL, renEls, keepO, keepS, keysO, refsS, refsOB, cntN, headC, setS, boxO, row, putW, putB, putB1, eNl, newOs, frz, renO, noExtO, zps, zp, two32, w64, -getElem?_pos]
set_option maxHeartbeats 4000000 in
theorem endu32 (N d : Nat) (g : SL → OB → Option R) (xs : List (List PV)) (p : Int) : 
    m21b2 (sem tab N (d + 1)) N [] g (slu32 xs xs.length p xs.length) [] = some (.b (decide (xs.length ≤ 8)), []) := by
  have e : decide ((xs.length : Int) ≤ 8) = decide (xs.length ≤ 8) := by by_cases h : xs.length ≤ 8 <;> simp [h] <;> omega
  simp -implicitDefEqProofs (maxSteps := 1000000) (disch := first | omega | rfl) [m21b2, slu32, e, KS, getS, getO, gS, zipN, dropW, takeW, wds, stvs, sea, seaL, refs, refsL, refsEls, refsO, isPureEls, isPures, isPure, noExt, noExts, noExtEls, cellsL, ren, renL, renEls, keepO, keepS, keysO, refsS, refsOB, cntN, headC, setS, boxO, row, putW, putB, putB1, eNl, newOs, frz, renO, noExtO, zps, zp, two32, w64, -getElem?_pos]
theorem loopu32 (N d : Nat) (l : List Us) (hl : l.length < 1000000) : ∀ (k i e : Nat) (p : Int), i + k = l.length → 0 ≤ p ∧ p ≤ 255 →
    loopC (m21b2 (sem tab N (d + 1)) N []) (e + 1 + k) (slu32 (usL l) l.length p i) [] = some (.b (mayFrom p (l.drop i) && decide (l.length ≤ 8)), []) := by
  intro k
  induction k with
  | zero =>
    intro i e p h _
    have : i = l.length := by omega
    subst this
    have h2 := endu32 N d (loopC (m21b2 (sem tab N (d + 1)) N []) e) (usL l) p
    rw [usL_len] at h2
    rw [Nat.add_zero, k_loop, h2, List.drop_length]
    simp [mayFrom]
  | succ k ih =>
    intro i e p h hp
    have hi : i < l.length := by omega
    rw [← Nat.add_assoc, k_loop, stepu32 N d _ (usL l) l.length p i l[i] (usL_get l i hi) hi hl hp, List.drop_eq_getElem_cons hi, mayFrom]
    cases ho : okU p l[i]
    · simp
    · rw [cond_true, ih (i + 1) e _ (by omega) (by
        simp only [okU, inB, Bool.and_eq_true, decide_eq_true_eq] at ho
        omega)]
      simp
theorem U32 (N d : Nat) (l : List Us) (hl : l.length < 1000) : sem tab (N + 1000) (d + 2) 21 [.l false (usL l)] [] = some (.b (mayU l), []) := by
  rw [sem_succ tab (N + 1000) (d + 1) 21 m21 rfl]
  have h := loopu32 (N + 1000) d l (by omega) l.length 0 (N + 999 - l.length) 0 (by omega) (by omega)
  rw [show N + 999 - l.length + 1 + l.length = N + 1000 by omega, List.drop_zero] at h
  have hn := usL_len l
  rw [← hn] at h
  simp only [slu32, mayU] at h ⊢
  rw [← hn]
  generalize mayFrom 0 l = q at *
  rw [show ((0 : Nat) : Int) = 0 from rfl, k_loop] at h
  generalize usL l = a at *
  simp -implicitDefEqProofs (maxSteps := 1000000) (disch := first | omega | rfl) [m21, h, KS, getS, getO, gS, zipN, dropW, takeW, wds, stvs, sea, seaL, refs, refsL, refsEls, refsO, isPureEls, isPures, isPure, noExt, noExts, noExtEls, cellsL, ren, renL, renEls, keepO, keepS, keysO, refsS, refsOB, cntN, headC, setS, boxO, row, putW, putB, putB1, eNl, newOs, frz, renO, noExtO, zps, zp, two32, w64, -getElem?_pos]
def slu30 (xs : List (List PV)) (i : Nat) : SL := [(0, .l false xs), (3, .i .i64 i)]
set_option maxHeartbeats 4000000 in
theorem stepu30 (N d : Nat) (g : SL → OB → Option R) (xs : List (List PV)) (p : Int) (i : Nat) (u : Us) (hx : xs[i]? = some (uC u)) (hi : i < xs.length) (hn : i < 10) (hp : 0 ≤ p ∧ p ≤ 255)
    (hb : i = 0 ∧ p = 0 ∨ 0 < i ∧ ∃ v : Us, xs[i - 1]? = some (uC v) ∧ v.1 = p) :
    m19b0 (sem tab N (d + 1)) N [] g (slu30 xs i) [] = cond (okU p u) (g (slu30 xs (i + 1)) []) (some (.b false, [])) := by
  obtain ⟨no, r, ks⟩ := u
  have h2 := fun a => U92 N d a
  have w2 := w64n (i := i) (by omega)
  have hl := byL_len ks
  have ci : (i : Int) < xs.length := by omega
  have ci2 : (i : Int) < 10 := by omega
  simp only [okU, uC] at hx ⊢
  rw [← hl]
  generalize byL ks = b at *
  cases b2 : roleB r
  · simp -implicitDefEqProofs (maxSteps := 1000000) (disch := first | omega | rfl) [m19b0, slu30, hx, h2, w2, ci, ci2, b2, KS, getS, getO, gS, zipN, dropW, takeW, wds, stvs, sea, seaL, refs, refsL, refsEls, refsO, isPureEls, isPures, isPure, noExt, noExts, noExtEls, cellsL, ren, renL, renEls, keepO, keepS, keysO, refsS, refsOB, cntN, headC, setS, boxO, row, putW, putB, putB1, eNl, newOs, frz, renO, noExtO, zps, zp, two32, w64, -getElem?_pos]
  · by_cases c1 : no < 1
    · have e : inB no (p + 1) 255 = false := by simp only [inB]; rw [decide_eq_false (by omega)]; rfl
      simp -implicitDefEqProofs (maxSteps := 1000000) (disch := first | omega | rfl) [m19b0, slu30, hx, h2, w2, ci, ci2, b2, c1, e, KS, getS, getO, gS, zipN, dropW, takeW, wds, stvs, sea, seaL, refs, refsL, refsEls, refsO, isPureEls, isPures, isPure, noExt, noExts, noExtEls, cellsL, ren, renL, renEls, keepO, keepS, keysO, refsS, refsOB, cntN, headC, setS, boxO, row, putW, putB, putB1, eNl, newOs, frz, renO, noExtO, zps, zp, two32, w64, -getElem?_pos]
    · by_cases c2 : no > 255
      · have e : inB no (p + 1) 255 = false := by simp only [inB]; rw [decide_eq_false (p := no ≤ 255) (by omega)]; simp
        have c2' : 255 < no := c2
        simp -implicitDefEqProofs (maxSteps := 1000000) (disch := first | omega | rfl) [m19b0, slu30, hx, h2, w2, ci, ci2, b2, c1, c2, c2', e, KS, getS, getO, gS, zipN, dropW, takeW, wds, stvs, sea, seaL, refs, refsL, refsEls, refsO, isPureEls, isPures, isPure, noExt, noExts, noExtEls, cellsL, ren, renL, renEls, keepO, keepS, keysO, refsS, refsOB, cntN, headC, setS, boxO, row, putW, putB, putB1, eNl, newOs, frz, renO, noExtO, zps, zp, two32, w64, -getElem?_pos]
      · have c2' : ¬ 255 < no := c2
        by_cases c3 : (b.length : Int) < 16
        · have e : inB b.length 16 64 = false := by simp only [inB]; rw [decide_eq_false (by omega)]; rfl
          simp -implicitDefEqProofs (maxSteps := 1000000) (disch := first | omega | rfl) [m19b0, slu30, hx, h2, w2, ci, ci2, b2, c1, c2, c2', c3, e, KS, getS, getO, gS, zipN, dropW, takeW, wds, stvs, sea, seaL, refs, refsL, refsEls, refsO, isPureEls, isPures, isPure, noExt, noExts, noExtEls, cellsL, ren, renL, renEls, keepO, keepS, keysO, refsS, refsOB, cntN, headC, setS, boxO, row, putW, putB, putB1, eNl, newOs, frz, renO, noExtO, zps, zp, two32, w64, -getElem?_pos]
        · by_cases c4 : (b.length : Int) > 64
          · have e : inB b.length 16 64 = false := by simp only [inB]; rw [decide_eq_false (p := (b.length : Int) ≤ 64) (by omega)]; simp
            have c4' : 64 < (b.length : Int) := c4
            simp -implicitDefEqProofs (maxSteps := 1000000) (disch := first | omega | rfl) [m19b0, slu30, hx, h2, w2, ci, ci2, b2, c1, c2, c2', c3, c4, c4', e, KS, getS, getO, gS, zipN, dropW, takeW, wds, stvs, sea, seaL, refs, refsL, refsEls, refsO, isPureEls, isPures, isPure, noExt, noExts, noExtEls, cellsL, ren, renL, renEls, keepO, keepS, keysO, refsS, refsOB, cntN, headC, setS, boxO, row, putW, putB, putB1, eNl, newOs, frz, renO, noExtO, zps, zp, two32, w64, -getElem?_pos]
          · have c4' : ¬ 64 < (b.length : Int) := c4
            have e : inB b.length 16 64 = true := by simp only [inB, Bool.and_eq_true, decide_eq_true_eq]; omega
            rcases hb with ⟨rfl, rfl⟩ | ⟨h0, ⟨vn, vr, vk⟩, hv, rfl⟩
            · have e2 : inB no 1 255 = true := by simp only [inB, Bool.and_eq_true, decide_eq_true_eq]; omega
              have w2' : IntKind.i64.wrap (0 + 1) = 1 := by decide
              have w2'' : IntKind.i64.wrap 1 = 1 := by decide
              simp -implicitDefEqProofs (maxSteps := 1000000) (disch := first | omega | rfl) [m19b0, slu30, hx, h2, w2', w2'', hi, b2, c1, c2, c2', c3, c4, c4', e, e2, KS, getS, getO, gS, zipN, dropW, takeW, wds, stvs, sea, seaL, refs, refsL, refsEls, refsO, isPureEls, isPures, isPure, noExt, noExts, noExtEls, cellsL, ren, renL, renEls, keepO, keepS, keysO, refsS, refsOB, cntN, headC, setS, boxO, row, putW, putB, putB1, eNl, newOs, frz, renO, noExtO, zps, zp, two32, w64, -getElem?_pos]
            · simp only [uC] at hv
              generalize byL vk = b' at *
              have w3 : IntKind.i64.wrap ((i : Int) - 1) = ((i - 1 : Nat) : Int) := by rw [w64 (by omega) (by omega)]; omega
              have c0 : (i : Int) > 0 := by omega
              have c0' : 0 < i := h0
              by_cases c5 : no ≤ vn
              · have e2 : inB no (vn + 1) 255 = false := by simp only [inB]; rw [decide_eq_false (by omega)]; rfl
                simp -implicitDefEqProofs (maxSteps := 1000000) (disch := first | omega | rfl) [m19b0, slu30, hx, hv, h2, w2, w3, ci, ci2, b2, c0, c0', c1, c2, c2', c3, c4, c4', c5, e, e2, KS, getS, getO, gS, zipN, dropW, takeW, wds, stvs, sea, seaL, refs, refsL, refsEls, refsO, isPureEls, isPures, isPure, noExt, noExts, noExtEls, cellsL, ren, renL, renEls, keepO, keepS, keysO, refsS, refsOB, cntN, headC, setS, boxO, row, putW, putB, putB1, eNl, newOs, frz, renO, noExtO, zps, zp, two32, w64, -getElem?_pos]
              · have e2 : inB no (vn + 1) 255 = true := by simp only [inB, Bool.and_eq_true, decide_eq_true_eq]; omega
                simp -implicitDefEqProofs (maxSteps := 1000000) (disch := first | omega | rfl) [m19b0, slu30, hx, hv, h2, w2, w3, ci, ci2, b2, c0, c0', c1, c2, c2', c3, c4, c4', c5, e, e2, KS, getS, getO, gS, zipN, dropW, takeW, wds, stvs, sea, seaL, refs, refsL, refsEls, refsO, isPureEls, isPures, isPure, noExt, noExts, noExtEls, cellsL, ren, renL, renEls, keepO, keepS, keysO, refsS, refsOB, cntN, headC, setS, boxO, row, putW, putB, putB1, eNl, newOs, frz, renO, noExtO, zps, zp, two32, w64, -getElem?_pos]
set_option maxHeartbeats 4000000 in
theorem endu30 (N d : Nat) (g : SL → OB → Option R) (xs : List (List PV)) : m19b0 (sem tab N (d + 1)) N [] g (slu30 xs xs.length) [] = some (.b (decide (xs.length ≤ 8)), []) := by
  have e : decide ((xs.length : Int) ≤ 8) = decide (xs.length ≤ 8) := by by_cases h : xs.length ≤ 8 <;> simp [h] <;> omega
  simp -implicitDefEqProofs (maxSteps := 1000000) (disch := first | omega | rfl) [m19b0, slu30, e, KS, getS, getO, gS, zipN, dropW, takeW, wds, stvs, sea, seaL, refs, refsL, refsEls, refsO, isPureEls, isPures, isPure, noExt, noExts, noExtEls, cellsL, ren, renL, renEls, keepO, keepS, keysO, refsS, refsOB, cntN, headC, setS, boxO, row, putW, putB, putB1, eNl, newOs, frz, renO, noExtO, zps, zp, two32, w64, -getElem?_pos]
theorem loopu30 (N d : Nat) (l : List Us) (hl : l.length ≤ 10) : ∀ (k i e : Nat) (p : Int), i + k = l.length → 0 ≤ p ∧ p ≤ 255 → (i = 0 ∧ p = 0 ∨ 0 < i ∧ ∃ v : Us, l[i - 1]? = some v ∧ v.1 = p) →
    loopC (m19b0 (sem tab N (d + 1)) N []) (e + 1 + k) (slu30 (usL l) i) [] = some (.b (mayFrom p (l.drop i) && decide (l.length ≤ 8)), []) := by
  intro k
  induction k with
  | zero =>
    intro i e p h _ _
    have : i = l.length := by omega
    subst this
    have h2 := endu30 N d (loopC (m19b0 (sem tab N (d + 1)) N []) e) (usL l)
    rw [usL_len] at h2
    rw [Nat.add_zero, k_loop, h2, List.drop_length]
    simp [mayFrom]
  | succ k ih =>
    intro i e p h hp hb
    have hi : i < l.length := by omega
    rw [← Nat.add_assoc, k_loop, stepu30 N d _ (usL l) p i l[i] (usL_get l i hi) (by rw [usL_len]; exact hi) (by omega) hp (hb.imp id (by
      rintro ⟨h1, v, h2, h3⟩
      exact ⟨h1, v, by rw [usL, List.getElem?_map, h2]; rfl, h3⟩)), List.drop_eq_getElem_cons hi, mayFrom]
    cases ho : okU p l[i]
    · simp
    · rw [cond_true, ih (i + 1) e _ (by omega) (by
        simp only [okU, inB, Bool.and_eq_true, decide_eq_true_eq] at ho
        omega) (.inr ⟨by omega, l[i], by simp [hi], rfl⟩)]
      simp
theorem U30u (N d : Nat) (l : List Us) (hl : l.length ≤ 10) : sem tab (N + 1000) (d + 2) 19 [.l false (usL l)] [] = some (.b (mayU l), []) := by
  rw [sem_succ tab (N + 1000) (d + 1) 19 m19 rfl]
  have h := loopu30 (N + 1000) d l (by omega) l.length 0 (N + 999 - l.length) 0 (by omega) (by omega) (.inl ⟨rfl, rfl⟩)
  rw [show N + 999 - l.length + 1 + l.length = N + 1000 by omega, List.drop_zero] at h
  have hn := usL_len l
  simp only [slu30, mayU] at h ⊢
  generalize mayFrom 0 l = q at *
  rw [show ((0 : Nat) : Int) = 0 from rfl, k_loop] at h
  generalize usL l = a at *
  simp -implicitDefEqProofs (maxSteps := 1000000) (disch := first | omega | rfl) [m19, h, KS, getS, getO, gS, zipN, dropW, takeW, wds, stvs, sea, seaL, refs, refsL, refsEls, refsO, isPureEls, isPures, isPure, noExt, noExts, noExtEls, cellsL, ren, renL, renEls, keepO, keepS, keysO, refsS, refsOB, cntN, headC, setS, boxO, row, putW, putB, putB1, eNl, newOs, frz, renO, noExtO, zps, zp, two32, w64, -getElem?_pos]
/-- Where a number stands, or -1. -/
def findU (l : List Us) (no : Int) : Int := if mayU l = true ∧ l.findIdx (fun u => u.1 == no) < l.length then (l.findIdx (fun u => u.1 == no) : Int) else -1
def slu35 (xs : List (List PV)) (no : Int) (b : Bool) (i : Nat) : SL := [(0, .l false xs), (1, .i .i64 no), (5, .b b), (6, .i .i64 i)]
set_option maxHeartbeats 4000000 in
theorem stepu35 (N d : Nat) (g : SL → OB → Option R) (xs : List (List PV)) (no : Int) (i : Nat) (u : Us) (hx : xs[i]? = some (uC u)) (hi : i < xs.length) (hn : xs.length < 1000000) :
    m24b0 (sem tab N d) N [] g (slu35 xs no true i) [] = cond (u.1 == no) (some (.i .i64 i, [])) (g (slu35 xs no true (i + 1)) []) := by
  obtain ⟨un, r, ks⟩ := u
  have w2 := w64n (i := i) (by omega)
  have ci : (i : Int) < xs.length := by omega
  simp only [uC] at hx ⊢
  generalize byL ks = b at *
  by_cases e : un = no
  · subst e
    simp -implicitDefEqProofs (maxSteps := 1000000) (disch := first | omega | rfl) [m24b0, slu35, hx, w2, ci, KS, getS, getO, gS, zipN, dropW, takeW, wds, stvs, sea, seaL, refs, refsL, refsEls, refsO, isPureEls, isPures, isPure, noExt, noExts, noExtEls, cellsL, ren, renL, renEls, keepO, keepS, keysO, refsS, refsOB, cntN, headC, setS, boxO, row, putW, putB, putB1, eNl, newOs, frz, renO, noExtO, zps, zp, two32, w64, -getElem?_pos]
  · have e' : (un == no) = false := by simpa using e
    simp -implicitDefEqProofs (maxSteps := 1000000) (disch := first | omega | rfl) [m24b0, slu35, hx, w2, ci, e', KS, getS, getO, gS, zipN, dropW, takeW, wds, stvs, sea, seaL, refs, refsL, refsEls, refsO, isPureEls, isPures, isPure, noExt, noExts, noExtEls, cellsL, ren, renL, renEls, keepO, keepS, keysO, refsS, refsOB, cntN, headC, setS, boxO, row, putW, putB, putB1, eNl, newOs, frz, renO, noExtO, zps, zp, two32, w64, -getElem?_pos]
set_option maxHeartbeats 4000000 in
theorem endu35 (N d : Nat) (g : SL → OB → Option R) (xs : List (List PV)) (no : Int) : m24b0 (sem tab N d) N [] g (slu35 xs no true xs.length) [] = some (.i .i64 (-1), []) := by
  simp -implicitDefEqProofs (maxSteps := 1000000) (disch := first | omega | rfl) [m24b0, slu35, KS, getS, getO, gS, zipN, dropW, takeW, wds, stvs, sea, seaL, refs, refsL, refsEls, refsO, isPureEls, isPures, isPure, noExt, noExts, noExtEls, cellsL, ren, renL, renEls, keepO, keepS, keysO, refsS, refsOB, cntN, headC, setS, boxO, row, putW, putB, putB1, eNl, newOs, frz, renO, noExtO, zps, zp, two32, w64, -getElem?_pos]
set_option maxHeartbeats 4000000 in
theorem outu35 (N d : Nat) (g : SL → OB → Option R) (xs : List (List PV)) (no : Int) : m24b0 (sem tab N d) N [] g [(0, .l false xs), (1, .i .i64 no), (5, .b false), (6, .i .i64 0)] [] = some (.i .i64 (-1), []) := by
  by_cases c : 0 < xs.length <;> simp -implicitDefEqProofs (maxSteps := 1000000) (disch := first | omega | rfl) [m24b0, c, KS, getS, getO, gS, zipN, dropW, takeW, wds, stvs, sea, seaL, refs, refsL, refsEls, refsO, isPureEls, isPures, isPure, noExt, noExts, noExtEls, cellsL, ren, renL, renEls, keepO, keepS, keysO, refsS, refsOB, cntN, headC, setS, boxO, row, putW, putB, putB1, eNl, newOs, frz, renO, noExtO, zps, zp, two32, w64, -getElem?_pos]
theorem loopu35 (N d : Nat) (l : List Us) (no : Int) (hl : l.length < 1000) : ∀ (k i e : Nat), i + k = l.length →
    loopC (m24b0 (sem tab N d) N []) (e + 1 + k) (slu35 (usL l) no true i) [] = some (.i .i64 (if (l.drop i).findIdx (fun u => u.1 == no) < (l.drop i).length then ((i + (l.drop i).findIdx (fun u => u.1 == no) : Nat) : Int) else -1), []) := by
  intro k
  induction k with
  | zero =>
    intro i e h
    have : i = l.length := by omega
    subst this
    have h2 := endu35 N d (loopC (m24b0 (sem tab N d) N []) e) (usL l) no
    rw [usL_len] at h2
    rw [Nat.add_zero, k_loop, h2, List.drop_length]
    simp
  | succ k ih =>
    intro i e h
    have hi : i < l.length := by omega
    rw [← Nat.add_assoc, k_loop, stepu35 N d _ (usL l) no i l[i] (usL_get l i hi) (by rw [usL_len]; exact hi) (by rw [usL_len]; omega), List.drop_eq_getElem_cons hi, List.findIdx_cons]
    cases ho : (l[i].1 == no)
    · rw [cond_false, ih (i + 1) e (by omega)]
      simp only [cond_false, List.length_cons]
      by_cases c : (List.drop (i + 1) l).findIdx (fun u => u.1 == no) < (List.drop (i + 1) l).length
      · rw [if_pos c, if_pos (by omega)]; congr 3; omega
      · rw [if_neg c, if_neg (by omega)]
    · simp; omega
theorem U35u (N d : Nat) (l : List Us) (no : Int) (hl : l.length ≤ 10) : sem tab (N + 1000) (d + 3) 24 [.l false (usL l), .i .i64 no] [] = some (.i .i64 (findU l no), []) := by
  rw [sem_succ tab (N + 1000) (d + 2) 24 m24 rfl]
  have h30 := U30u N d l hl
  have h := loopu35 (N + 1000) (d + 2) l no (by omega) l.length 0 (N + 999 - l.length) (by omega)
  rw [show N + 999 - l.length + 1 + l.length = N + 1000 by omega, List.drop_zero, k_loop] at h
  have hn := usL_len l
  simp only [findU]
  cases hm : mayU l
  · rw [hm] at h30
    clear h
    have h := outu35 (N + 1000) (d + 2) (loopC (m24b0 (sem tab (N + 1000) (d + 2)) (N + 1000) []) (N + 999)) (usL l) no
    generalize usL l = a at *
    simp -implicitDefEqProofs (maxSteps := 1000000) (disch := first | omega | rfl) [m24, h30, h, KS, getS, getO, gS, zipN, dropW, takeW, wds, stvs, sea, seaL, refs, refsL, refsEls, refsO, isPureEls, isPures, isPure, noExt, noExts, noExtEls, cellsL, ren, renL, renEls, keepO, keepS, keysO, refsS, refsOB, cntN, headC, setS, boxO, row, putW, putB, putB1, eNl, newOs, frz, renO, noExtO, zps, zp, two32, w64, -getElem?_pos]
  · rw [hm] at h30
    simp only [slu35, Nat.zero_add] at h
    rw [show ((0 : Nat) : Int) = 0 from rfl] at h
    simp only [true_and]
    generalize l.findIdx (fun u => u.1 == no) = q at *
    rw [← hn] at h ⊢
    generalize usL l = a at *
    simp -implicitDefEqProofs (maxSteps := 1000000) (disch := first | omega | rfl) [m24, h30, h, KS, getS, getO, gS, zipN, dropW, takeW, wds, stvs, sea, seaL, refs, refsL, refsEls, refsO, isPureEls, isPures, isPure, noExt, noExts, noExtEls, cellsL, ren, renL, renEls, keepO, keepS, keysO, refsS, refsOB, cntN, headC, setS, boxO, row, putW, putB, putB1, eNl, newOs, frz, renO, noExtO, zps, zp, two32, w64, -getElem?_pos]
end
/-! ## PureUb -/
section
abbrev bxL (xs : List (List PV)) : Obj' := box [.l false xs] 1
abbrev bxI (n : Int) : Obj' := box [.i .i64 n] 1
set_option maxHeartbeats 4000000 in
theorem U97 (N d : Nat) (xs : List (List PV)) (u : Us) (i : Nat) (no : Int) (hx : xs[i]? = some (uC u)) : sem tab N (d + 1) 56 [.i .i64 i, .p 0 0 0 0 none, .p 1 0 0 0 none] [bxL xs, bxI no] = some (.b (decide (no ≤ u.1)), [bxL xs, bxI no]) := by
  rw [sem_succ tab N d 56 m56 rfl]
  obtain ⟨un, r, ks⟩ := u
  simp only [uC] at hx ⊢
  generalize byL ks = b at *
  have hf : ∀ (v : Bool), fin [(0, bxL xs), (1, bxI no)] 2 [0] [.b v] = some (.b v, [bxL xs, bxI no]) := by
    intro v
    rfl
  simp only [bxL, bxI, box] at hf ⊢
  simp -implicitDefEqProofs (maxSteps := 1000000) (disch := first | omega | rfl) [m56, hx, hf, KS, getS, getO, gS, zipN, dropW, takeW, wds, stvs, sea, seaL, refs, refsL, refsEls, refsO, isPureEls, isPures, isPure, noExt, noExts, noExtEls, cellsL, ren, renL, renEls, keepO, keepS, keysO, refsS, refsOB, cntN, headC, setS, boxO, row, putW, putB, putB1, eNl, newOs, frz, renO, noExtO, zps, zp, two32, w64, -getElem?_pos]
theorem k_cav97 (Φ : Sem') (n : Nat) (xs : List (List PV)) (no i : Int) (b : Bool)
    (h : Φ 56 [.i .i64 i, .p 0 0 0 0 none, .p 1 0 0 0 none] [bxL xs, bxI no] = some (.b b, [bxL xs, bxI no])) :
    cav Φ [(0, bxL xs), (1, bxI no)] n false (.fn 56 [] [.p 0 0 0 0 none, .p 1 0 0 0 none]) [.i .i64 i] = some (.b b, [(0, bxL xs), (1, bxI no)]) := by
  simp only [bxL, bxI, box] at h ⊢
  simp [cav, ca, hand, reifies, reify, reify0, refs, refsL, refsEls, refsO, reach, getO, getOs, idx, renL, ren, renEls, renO, h, back, putOs, newOs, nth]
def slu96 (i j : Nat) : SL := [(1, .fn 56 [] [.p 0 0 0 0 none, .p 1 0 0 0 none]), (5, .i .i64 i), (6, .i .i64 j)]
theorem half (i j m : Nat) (h : i < 1000) (h' : j < 1000) (hm : m = (i + j) / 2) : IntKind.i64.wrap ((IntKind.u64.wrap ((i : Int) + j)).fdiv (2 ^ (min 1 IntKind.u64.bits))) = (m : Int) := by
  have : IntKind.u64.wrap ((i : Int) + j) = (i : Int) + j := by rw [IntKind.wrap_u64]; omega
  rw [this]
  have : ((i : Int) + j).fdiv (2 ^ (min 1 IntKind.u64.bits)) = (m : Int) := by
    show ((i : Int) + j).fdiv 2 = _
    rw [Int.fdiv_eq_ediv_of_nonneg _ (by omega)]
    omega
  rw [this]
  exact w64 (by omega) (by omega)
set_option maxHeartbeats 4000000 in
theorem stepu96 (N d : Nat) (g : SL → OB → Option R) (l : List Us) (no : Int) (i j m : Nat) (hij : i < j) (hj : j ≤ l.length) (hl : l.length < 1000) (hm : m = (i + j) / 2) (u : Us) (hu : l[m]? = some u) :
    m55b0 (sem tab N (d + 1)) N [bxL (usL l), bxI no] g (slu96 i j) [(0, bxL (usL l)), (1, bxI no)] = cond (decide (no ≤ u.1)) (g (slu96 i m) [(0, bxL (usL l)), (1, bxI no)]) (g (slu96 (m + 1) j) [(0, bxL (usL l)), (1, bxI no)]) := by
  have h1 := U97 N d (usL l) u m no (by rw [usL, List.getElem?_map, hu]; rfl)
  generalize decide (no ≤ u.1) = b at *
  have h2 := k_cav97 (sem tab N (d + 1)) 224 (usL l) no _ b h1
  have hh := half i j m (by omega) (by omega) hm
  have w2 := w64n (i := m) (by omega)
  have w1 : IntKind.i64.wrap ((i : Int) + j) = (i : Int) + j := w64 (by omega) (by omega)
  have ci : (i : Int) < j := by omega
  generalize usL l = a at *
  clear hu hm h1
  simp only [bxL, bxI, box] at h2 ⊢
  cases b
  · simp -implicitDefEqProofs (maxSteps := 1000000) (disch := first | omega | rfl) [m55b0, slu96, h2, hh, w1, w2, ci, KS, getS, getO, gS, zipN, dropW, takeW, wds, stvs, sea, seaL, refs, refsL, refsEls, refsO, isPureEls, isPures, isPure, noExt, noExts, noExtEls, cellsL, ren, renL, renEls, keepO, keepS, keysO, refsS, refsOB, cntN, headC, setS, boxO, row, putW, putB, putB1, eNl, newOs, frz, renO, noExtO, zps, zp, two32, w64, -getElem?_pos]
  · simp -implicitDefEqProofs (maxSteps := 1000000) (disch := first | omega | rfl) [m55b0, slu96, h2, hh, w1, w2, ci, KS, getS, getO, gS, zipN, dropW, takeW, wds, stvs, sea, seaL, refs, refsL, refsEls, refsO, isPureEls, isPures, isPure, noExt, noExts, noExtEls, cellsL, ren, renL, renEls, keepO, keepS, keysO, refsS, refsOB, cntN, headC, setS, boxO, row, putW, putB, putB1, eNl, newOs, frz, renO, noExtO, zps, zp, two32, w64, -getElem?_pos]
set_option maxHeartbeats 4000000 in
theorem endu96 (N d : Nat) (g : SL → OB → Option R) (xs : List (List PV)) (no : Int) (i : Nat) :
    m55b0 (sem tab N d) N [bxL xs, bxI no] g (slu96 i i) [(0, bxL xs), (1, bxI no)] = some (.i .i64 i, [bxL xs, bxI no]) := by
  have hf : ∀ (v : Int), fin [(0, bxL xs), (1, bxI no)] 2 [0] [.i .i64 v] = some (.i .i64 v, [bxL xs, bxI no]) := by
    intro v
    rfl
  simp only [bxL, bxI, box] at hf ⊢
  simp -implicitDefEqProofs (maxSteps := 1000000) (disch := first | omega | rfl) [m55b0, slu96, hf, KS, getS, getO, gS, zipN, dropW, takeW, wds, stvs, sea, seaL, refs, refsL, refsEls, refsO, isPureEls, isPures, isPure, noExt, noExts, noExtEls, cellsL, ren, renL, renEls, keepO, keepS, keysO, refsS, refsOB, cntN, headC, setS, boxO, row, putW, putB, putB1, eNl, newOs, frz, renO, noExtO, zps, zp, two32, w64, -getElem?_pos]
/-- Where a search ends. -/
theorem loopu96 (N d : Nat) (l : List Us) (no : Int) (r : Nat) (hl : l.length < 1000) (hr : r ≤ l.length) (hp : ∀ k u, l[k]? = some u → decide (no ≤ u.1) = decide (r ≤ k)) : ∀ (n i j e : Nat), j - i ≤ n → i ≤ r → r ≤ j → j ≤ l.length →
    loopC (m55b0 (sem tab N (d + 1)) N [bxL (usL l), bxI no]) (e + 1 + n) (slu96 i j) [(0, bxL (usL l)), (1, bxI no)] = some (.i .i64 r, [bxL (usL l), bxI no]) := by
  intro n
  induction n with
  | zero =>
    intro i j e h1 h2 h3 h4
    obtain rfl : i = r := by omega
    obtain rfl : j = i := by omega
    rw [Nat.add_zero, k_loop, endu96]
  | succ n ih =>
    intro i j e h1 h2 h3 h4
    by_cases hij : i < j
    · have hm : (i + j) / 2 < l.length := by omega
      have hg : l[(i + j) / 2]? = some l[(i + j) / 2] := List.getElem?_eq_getElem hm
      rw [← Nat.add_assoc, k_loop, stepu96 N d _ l no i j _ hij h4 hl rfl _ hg, hp _ _ hg]
      by_cases c : r ≤ (i + j) / 2
      · rw [decide_eq_true c, cond_true]; exact ih i _ e (by omega) h2 c (by omega)
      · rw [decide_eq_false c, cond_false]; exact ih _ j e (by omega) (by omega) h3 h4
    · obtain rfl : i = r := by omega
      obtain rfl : j = i := by omega
      rw [← Nat.add_assoc, k_loop, endu96]
theorem U96 (N d : Nat) (l : List Us) (no : Int) (r : Nat) (hl : l.length < 1000) (hr : r ≤ l.length) (hp : ∀ k u, l[k]? = some u → decide (no ≤ u.1) = decide (r ≤ k)) :
    sem tab (N + 1001) (d + 2) 55 [.i .i64 l.length, .fn 56 [] [.p 0 0 0 0 none, .p 1 0 0 0 none]] [bxL (usL l), bxI no] = some (.i .i64 r, [bxL (usL l), bxI no]) := by
  rw [sem_succ tab (N + 1001) (d + 1) 55 m55 rfl]
  have h := loopu96 (N + 1001) d l no r hl hr hp 1000 0 l.length N (by omega) (by omega) hr (Nat.le_refl _)
  rw [show N + 1 + 1000 = N + 1001 by omega, k_loop] at h
  simp only [slu96, bxL, bxI, box] at h ⊢
  rw [show ((0 : Nat) : Int) = 0 from rfl] at h
  generalize usL l = a at *
  simp -implicitDefEqProofs (maxSteps := 1000000) (disch := first | omega | rfl) [m55, h, KS, getS, getO, gS, zipN, dropW, takeW, wds, stvs, sea, seaL, refs, refsL, refsEls, refsO, isPureEls, isPures, isPure, noExt, noExts, noExtEls, cellsL, ren, renL, renEls, keepO, keepS, keysO, refsS, refsOB, cntN, headC, setS, boxO, row, putW, putB, putB1, eNl, newOs, frz, renO, noExtO, zps, zp, two32, w64, -getElem?_pos]
theorem may_sorted : ∀ (l : List Us) (p : Int), mayFrom p l = true → ∀ (k : Nat) (u : Us), l[k]? = some u → p < u.1 ∧ ∀ (m : Nat) (v : Us), m < k → l[m]? = some v → v.1 < u.1
  | [], p, _, k, u, h => by simp at h
  | x :: r, p, hm, k, u, h => by
    simp only [mayFrom, Bool.and_eq_true] at hm
    obtain ⟨h1, h2⟩ := hm
    have hx : p < x.1 := by
      simp only [okU, inB, Bool.and_eq_true, decide_eq_true_eq] at h1
      omega
    cases k with
    | zero =>
      simp at h; subst h
      exact ⟨hx, fun m v hm => by omega⟩
    | succ k =>
      obtain ⟨g1, g2⟩ := may_sorted r x.1 h2 k u (by simpa using h)
      refine ⟨by omega, fun m v hm hv => ?_⟩
      cases m with
      | zero => simp at hv; subst hv; exact g1
      | succ m => exact g2 m v (by omega) (by simpa using hv)
def cntU (l : List Us) (no : Int) : Nat := l.findIdx (fun u => decide (no ≤ u.1))
theorem cnt_le (l : List Us) (no : Int) : cntU l no ≤ l.length := List.findIdx_le_length
theorem cnt_spec {l : List Us} (no : Int) (hm : mayFrom 0 l = true) : ∀ k u, l[k]? = some u → decide (no ≤ u.1) = decide (cntU l no ≤ k) := by
  intro k u hk
  obtain ⟨hlt, hk'⟩ := List.getElem?_eq_some_iff.1 hk
  rw [Bool.eq_iff_iff]
  simp only [decide_eq_true_eq]
  constructor
  · intro h
    by_cases c : cntU l no ≤ k
    · exact c
    · have := List.not_of_lt_findIdx (xs := l) (p := fun u => decide (no ≤ u.1)) (i := k) (by unfold cntU at c; omega)
      simp only [hk', decide_eq_false_iff_not] at this
      exact absurd h this
  · intro h
    have hc : cntU l no < l.length := by omega
    have hc' : l.findIdx (fun u => decide (no ≤ u.1)) < l.length := hc
    have h1 := List.findIdx_getElem (xs := l) (p := fun u => decide (no ≤ u.1)) (w := hc')
    simp only [decide_eq_true_eq] at h1
    rcases Nat.lt_or_eq_of_le h with h2 | h2
    · have := (may_sorted l 0 hm k u hk).2 _ _ h2 (List.getElem?_eq_getElem hc)
      exact Int.le_of_lt (Int.lt_of_le_of_lt h1 this)
    · have e : l[l.findIdx (fun u => decide (no ≤ u.1))]'hc = u := by
        rw [← hk']; congr 1
      rw [← e]; exact h1
theorem find_cnt {l : List Us} (no : Int) (hm : mayFrom 0 l = true) : (∃ u, l[cntU l no]? = some u ∧ u.1 = no) ∧ l.findIdx (fun u => u.1 == no) = cntU l no ∨ (∀ u, l[cntU l no]? = some u → u.1 ≠ no) ∧ ¬ l.findIdx (fun u => u.1 == no) < l.length := by
  by_cases h : ∃ u, l[cntU l no]? = some u ∧ u.1 = no
  · obtain ⟨u, hu, he⟩ := h
    refine .inl ⟨⟨u, hu, he⟩, ?_⟩
    obtain ⟨hlt, hu'⟩ := List.getElem?_eq_some_iff.1 hu
    rw [List.findIdx_eq hlt]
    refine ⟨by rw [hu']; simp [he], fun j hj => ?_⟩
    have hjl : j < l.length := by omega
    have := (may_sorted l 0 hm _ u hu).2 j _ hj (List.getElem?_eq_getElem hjl)
    simp only [beq_eq_false_iff_ne]
    omega
  · refine .inr ⟨fun u hu he => h ⟨u, hu, he⟩, fun hlt => ?_⟩
    have h1 := List.findIdx_getElem (xs := l) (p := fun u => u.1 == no) (w := hlt)
    simp only [beq_iff_eq] at h1
    generalize hk : l.findIdx (fun u => u.1 == no) = k at *
    have hg : l[k]? = some l[k] := List.getElem?_eq_getElem hlt
    have hs := cnt_spec no hm k _ hg
    rw [decide_eq_true (by omega)] at hs
    have hc := of_decide_eq_true hs.symm
    rcases Nat.lt_or_eq_of_le hc with h2 | h2
    · have hcl : cntU l no < l.length := by omega
      have h3 := (may_sorted l 0 hm k _ hg).2 _ _ h2 (List.getElem?_eq_getElem hcl)
      have h4 := cnt_spec no hm _ _ (List.getElem?_eq_getElem hcl)
      rw [decide_eq_true (Nat.le_refl _)] at h4
      have := of_decide_eq_true h4
      omega
    · exact h ⟨l[k], by rw [h2]; exact hg, h1⟩
theorem k_ca96 (Φ : Sem') (xs : List (List PV)) (no r : Int) (n : Nat)
    (h : Φ 55 [.i .i64 n, .fn 56 [] [.p 0 0 0 0 none, .p 1 0 0 0 none]] [bxL xs, bxI no] = some (.i .i64 r, [bxL xs, bxI no])) :
    ca Φ [(88, bxI no), (80, bxL xs)] 160 false 55 [.i .i64 n, .fn 56 [] [.p 80 0 0 0 none, .p 88 0 0 0 none]] = some (.i .i64 r, [(80, bxL xs), (88, bxI no)]) := by
  simp only [bxL, bxI, box] at h ⊢
  simp [ca, hand, reifies, reify, reify0, refs, refsL, refsEls, refsO, reach, getO, getOs, idx, renL, ren, renEls, renO, h, back, putOs, newOs, nth]
set_option maxHeartbeats 8000000 in
theorem U34u (N d : Nat) (l : List Us) (no : Int) (hl : l.length < 1000) : sem tab (N + 1001) (d + 3) 23 [.l false (usL l), .i .i64 no] [] = some (.i .i64 (findU l no), []) := by
  rw [sem_succ tab (N + 1001) (d + 2) 23 m23 rfl]
  have h32 := U32 (N + 1) d l hl
  rw [show N + 1 + 1000 = N + 1001 by omega] at h32
  cases hm : mayU l
  · rw [hm] at h32
    have hf : findU l no = -1 := by simp [findU, hm]
    rw [hf]
    generalize usL l = a at *
    simp -implicitDefEqProofs (maxSteps := 1000000) (disch := first | omega | rfl) [m23, h32, KS, getS, getO, gS, zipN, dropW, takeW, wds, stvs, sea, seaL, refs, refsL, refsEls, refsO, isPureEls, isPures, isPure, noExt, noExts, noExtEls, cellsL, ren, renL, renEls, keepO, keepS, keysO, refsS, refsOB, cntN, headC, setS, boxO, row, putW, putB, putB1, eNl, newOs, frz, renO, noExtO, zps, zp, two32, w64, -getElem?_pos]
  · rw [hm] at h32
    have hm' : mayFrom 0 l = true := by simp only [mayU, Bool.and_eq_true] at hm; exact hm.1
    have h96 := U96 N d l no (cntU l no) hl (cnt_le l no) (cnt_spec no hm')
    have k96 := k_ca96 (sem tab (N + 1001) (d + 2)) (usL l) no _ _ h96
    have hn := usL_len l
    have hc := cnt_le l no
    rcases find_cnt no hm' with ⟨⟨u, hu, he⟩, hi⟩ | ⟨hu, hi⟩
    · have hlt := (List.getElem?_eq_some_iff.1 hu).1
      have hx : (usL l)[cntU l no]? = some (uC u) := by rw [usL, List.getElem?_map, hu]; rfl
      have hf : findU l no = cntU l no := by simp only [findU, hm, hi]; simp only [true_and]; rw [if_pos hlt]
      rw [hf]
      obtain ⟨un, ur, uk⟩ := u
      simp only at he
      subst he
      simp only [uC] at hx
      clear hu hi hf h96
      generalize byL uk = b at *
      rw [← hn] at hlt hc k96
      generalize cntU l un = r at *
      generalize usL l = a at *
      have e1 : ((r : Int) == (a.length : Int)) = false := by simp; omega
      have c1 : (r : Int) < a.length := by omega
      simp only [bxL, bxI, box] at k96
      simp -implicitDefEqProofs (maxSteps := 1000000) (disch := first | omega | rfl) [m23, h32, k96, hx, e1, c1, KS, getS, getO, gS, zipN, dropW, takeW, wds, stvs, sea, seaL, refs, refsL, refsEls, refsO, isPureEls, isPures, isPure, noExt, noExts, noExtEls, cellsL, ren, renL, renEls, keepO, keepS, keysO, refsS, refsOB, cntN, headC, setS, boxO, row, putW, putB, putB1, eNl, newOs, frz, renO, noExtO, zps, zp, two32, w64, -getElem?_pos]
    · have hf : findU l no = -1 := by simp only [findU, hm]; rw [if_neg (fun h => hi h.2)]
      rw [hf]
      by_cases hlt : cntU l no < l.length
      · have hg : l[cntU l no]? = some l[cntU l no] := List.getElem?_eq_getElem hlt
        have hne := hu _ hg
        have hx : (usL l)[cntU l no]? = some (uC l[cntU l no]) := usL_get l _ hlt
        generalize l[cntU l no] = u at *
        obtain ⟨un, ur, uk⟩ := u
        simp only [uC] at hx hne
        clear hu hi hf h96 hg
        generalize byL uk = b at *
        rw [← hn] at hlt hc k96
        generalize cntU l no = r at *
        generalize usL l = a at *
        have e1 : ((r : Int) == (a.length : Int)) = false := by simp; omega
        have e2 : (un != no) = true := by simpa using hne
        have c1 : (r : Int) < a.length := by omega
        simp only [bxL, bxI, box] at k96
        simp -implicitDefEqProofs (maxSteps := 1000000) (disch := first | omega | rfl) [m23, h32, k96, hx, e1, e2, c1, KS, getS, getO, gS, zipN, dropW, takeW, wds, stvs, sea, seaL, refs, refsL, refsEls, refsO, isPureEls, isPures, isPure, noExt, noExts, noExtEls, cellsL, ren, renL, renEls, keepO, keepS, keysO, refsS, refsOB, cntN, headC, setS, boxO, row, putW, putB, putB1, eNl, newOs, frz, renO, noExtO, zps, zp, two32, w64, -getElem?_pos]
      · have er : cntU l no = l.length := by omega
        rw [er, ← hn] at k96
        clear hu hi hf h96 hc hlt er
        generalize usL l = a at *
        simp only [bxL, bxI, box] at k96
        simp -implicitDefEqProofs (maxSteps := 1000000) (disch := first | omega | rfl) [m23, h32, k96, KS, getS, getO, gS, zipN, dropW, takeW, wds, stvs, sea, seaL, refs, refsL, refsEls, refsO, isPureEls, isPures, isPure, noExt, noExts, noExtEls, cellsL, ren, renL, renEls, keepO, keepS, keysO, refsS, refsOB, cntN, headC, setS, boxO, row, putW, putB, putB1, eNl, newOs, frz, renO, noExtO, zps, zp, two32, w64, -getElem?_pos]
end
/-! ## PureUc -/
section
/-- The role of a number, or -1. -/
def roleU (l : List Us) (no : Int) : Int := match l[(findU l no).toNat]? with
  | some u => if findU l no = -1 then -1 else u.2.1
  | none => -1
theorem find_cases (l : List Us) (no : Int) : findU l no = -1 ∧ roleU l no = -1 ∨ ∃ k u, findU l no = (k : Nat) ∧ l[k]? = some u ∧ u.1 = no ∧ mayU l = true ∧ roleU l no = u.2.1 := by
  by_cases h : mayU l = true ∧ l.findIdx (fun u => u.1 == no) < l.length
  · have hf : findU l no = (l.findIdx (fun u => u.1 == no) : Nat) := by simp only [findU]; rw [if_pos h]
    have h1 := List.findIdx_getElem (xs := l) (p := fun u => u.1 == no) (w := h.2)
    simp only [beq_iff_eq] at h1
    refine .inr ⟨_, _, hf, List.getElem?_eq_getElem h.2, h1, h.1, ?_⟩
    unfold roleU
    rw [hf, Int.toNat_natCast, List.getElem?_eq_getElem h.2]
    simp only
    rw [if_neg (by omega)]
  · have hf : findU l no = -1 := by simp only [findU]; rw [if_neg h]
    refine .inl ⟨hf, ?_⟩
    unfold roleU
    rw [hf]
    split <;> simp
set_option maxHeartbeats 4000000 in
theorem U36u (N d : Nat) (l : List Us) (no : Int) (hl : l.length < 1000) : sem tab (N + 1001) (d + 4) 25 [.l false (usL l), .i .i64 no] [] = some (.i .i64 (roleU l no), []) := by
  rw [sem_succ tab (N + 1001) (d + 3) 25 m25 rfl]
  have h34 := U34u N d l no hl
  have hn := usL_len l
  rcases find_cases l no with ⟨h1, h2⟩ | ⟨k, u, h1, h2, _, _, h3⟩
  · rw [h1] at h34
    rw [h2]
    generalize usL l = a at *
    simp -implicitDefEqProofs (maxSteps := 1000000) (disch := first | omega | rfl) [m25, h34, KS, getS, getO, gS, zipN, dropW, takeW, wds, stvs, sea, seaL, refs, refsL, refsEls, refsO, isPureEls, isPures, isPure, noExt, noExts, noExtEls, cellsL, ren, renL, renEls, keepO, keepS, keysO, refsS, refsOB, cntN, headC, setS, boxO, row, putW, putB, putB1, eNl, newOs, frz, renO, noExtO, zps, zp, two32, w64, -getElem?_pos]
  · rw [h1] at h34
    rw [h3]
    have hx : (usL l)[k]? = some (uC u) := by rw [usL, List.getElem?_map, h2]; rfl
    have hk := (List.getElem?_eq_some_iff.1 h2).1
    obtain ⟨un, ur, uk⟩ := u
    simp only [uC] at hx ⊢
    generalize byL uk = b at *
    have c1 : (k : Int) < (usL l).length := by omega
    have e1 : ((k : Int) == -1) = false := by rw [beq_eq_false_iff_ne]; omega
    generalize usL l = a at *
    simp -implicitDefEqProofs (maxSteps := 1000000) (disch := first | omega | rfl) [m25, h34, hx, c1, e1, KS, getS, getO, gS, zipN, dropW, takeW, wds, stvs, sea, seaL, refs, refsL, refsEls, refsO, isPureEls, isPures, isPure, noExt, noExts, noExtEls, cellsL, ren, renL, renEls, keepO, keepS, keysO, refsS, refsOB, cntN, headC, setS, boxO, row, putW, putB, putB1, eNl, newOs, frz, renO, noExtO, zps, zp, two32, w64, -getElem?_pos]
set_option maxHeartbeats 4000000 in
theorem U37u (N d : Nat) (l : List Us) (no : Int) (hl : l.length ≤ 10) : sem tab (N + 1000) (d + 4) 26 [.l false (usL l), .i .i64 no] [] = some (.i .i64 (roleU l no), []) := by
  rw [sem_succ tab (N + 1000) (d + 3) 26 m26 rfl]
  have h34 := U35u N d l no hl
  have hn := usL_len l
  rcases find_cases l no with ⟨h1, h2⟩ | ⟨k, u, h1, h2, _, _, h3⟩
  · rw [h1] at h34
    rw [h2]
    generalize usL l = a at *
    simp -implicitDefEqProofs (maxSteps := 1000000) (disch := first | omega | rfl) [m26, h34, KS, getS, getO, gS, zipN, dropW, takeW, wds, stvs, sea, seaL, refs, refsL, refsEls, refsO, isPureEls, isPures, isPure, noExt, noExts, noExtEls, cellsL, ren, renL, renEls, keepO, keepS, keysO, refsS, refsOB, cntN, headC, setS, boxO, row, putW, putB, putB1, eNl, newOs, frz, renO, noExtO, zps, zp, two32, w64, -getElem?_pos]
  · rw [h1] at h34
    rw [h3]
    have hx : (usL l)[k]? = some (uC u) := by rw [usL, List.getElem?_map, h2]; rfl
    have hk := (List.getElem?_eq_some_iff.1 h2).1
    obtain ⟨un, ur, uk⟩ := u
    simp only [uC] at hx ⊢
    generalize byL uk = b at *
    have c1 : (k : Int) < (usL l).length := by omega
    have e1 : ¬ ((k : Int) < 0) := by omega
    generalize usL l = a at *
    simp -implicitDefEqProofs (maxSteps := 1000000) (disch := first | omega | rfl) [m26, h34, hx, c1, e1, KS, getS, getO, gS, zipN, dropW, takeW, wds, stvs, sea, seaL, refs, refsL, refsEls, refsO, isPureEls, isPures, isPure, noExt, noExts, noExtEls, cellsL, ren, renL, renEls, keepO, keepS, keysO, refsS, refsOB, cntN, headC, setS, boxO, row, putW, putB, putB1, eNl, newOs, frz, renO, noExtO, zps, zp, two32, w64, -getElem?_pos]
theorem dec_cons {α : Type} [DecidableEq α] (x y : α) (r s : List α) : decide (x :: r = y :: s) = (decide (x = y) && decide (r = s)) := by
  rw [Bool.eq_iff_iff]; simp
/-- Two rows of bytes, element by element. -/
def slu95 (a b : List (List PV)) (n i : Nat) : SL := [(0, .l false a), (1, .l false b), (12, .i .i64 n), (13, .i .i64 i)]
theorem byL_getI (xs : List Int) (i : Nat) (h : i < xs.length) : (byL xs)[i]? = some [.i .u8 xs[i]] := by simp [byL, h]
set_option maxHeartbeats 4000000 in
theorem stepu95 (N d : Nat) (g : SL → OB → Option R) (a b : List (List PV)) (n i : Nat) (x y : Int) (hx : a[i]? = some [.i .u8 x]) (hy : b[i]? = some [.i .u8 y]) (hi : i < n) (hn : n < 1000000) :
    m54b0 (sem tab N d) N [] g (slu95 a b n i) [] = cond (x == y) (g (slu95 a b n (i + 1)) []) (some (.b false, [])) := by
  have w2 := w64n (i := i) (by omega)
  have ci : (i : Int) < n := by omega
  by_cases e : x = y
  · subst e
    simp -implicitDefEqProofs (maxSteps := 1000000) (disch := first | omega | rfl) [m54b0, slu95, hx, hy, w2, ci, KS, getS, getO, gS, zipN, dropW, takeW, wds, stvs, sea, seaL, refs, refsL, refsEls, refsO, isPureEls, isPures, isPure, noExt, noExts, noExtEls, cellsL, ren, renL, renEls, keepO, keepS, keysO, refsS, refsOB, cntN, headC, setS, boxO, row, putW, putB, putB1, eNl, newOs, frz, renO, noExtO, zps, zp, two32, w64, -getElem?_pos]
  · have e' : (x == y) = false := by simpa using e
    have e2 : (x != y) = true := by simpa using e
    simp -implicitDefEqProofs (maxSteps := 1000000) (disch := first | omega | rfl) [m54b0, slu95, hx, hy, w2, ci, e', e2, KS, getS, getO, gS, zipN, dropW, takeW, wds, stvs, sea, seaL, refs, refsL, refsEls, refsO, isPureEls, isPures, isPure, noExt, noExts, noExtEls, cellsL, ren, renL, renEls, keepO, keepS, keysO, refsS, refsOB, cntN, headC, setS, boxO, row, putW, putB, putB1, eNl, newOs, frz, renO, noExtO, zps, zp, two32, w64, -getElem?_pos]
set_option maxHeartbeats 4000000 in
theorem endu95 (N d : Nat) (g : SL → OB → Option R) (a b : List (List PV)) (n : Nat) : m54b0 (sem tab N d) N [] g (slu95 a b n n) [] = some (.b true, []) := by
  simp -implicitDefEqProofs (maxSteps := 1000000) (disch := first | omega | rfl) [m54b0, slu95, KS, getS, getO, gS, zipN, dropW, takeW, wds, stvs, sea, seaL, refs, refsL, refsEls, refsO, isPureEls, isPures, isPure, noExt, noExts, noExtEls, cellsL, ren, renL, renEls, keepO, keepS, keysO, refsS, refsOB, cntN, headC, setS, boxO, row, putW, putB, putB1, eNl, newOs, frz, renO, noExtO, zps, zp, two32, w64, -getElem?_pos]
theorem loopu95 (N d : Nat) (xs ys : List Int) (he : xs.length = ys.length) (hl : xs.length < 1000000) : ∀ (k i e : Nat), i + k = xs.length →
    loopC (m54b0 (sem tab N d) N []) (e + 1 + k) (slu95 (byL xs) (byL ys) xs.length i) [] = some (.b (decide (xs.drop i = ys.drop i)), []) := by
  intro k
  induction k with
  | zero =>
    intro i e h
    have : i = xs.length := by omega
    subst this
    rw [Nat.add_zero, k_loop, endu95, List.drop_length, he, List.drop_length]; rfl
  | succ k ih =>
    intro i e h
    have hi : i < xs.length := by omega
    have hi' : i < ys.length := by omega
    have q1 := List.drop_eq_getElem_cons hi
    have q2 := List.drop_eq_getElem_cons hi'
    rw [← Nat.add_assoc, k_loop, stepu95 N d _ (byL xs) (byL ys) xs.length i _ _ (byL_getI xs i hi) (byL_getI ys i hi') hi hl, q1, q2]
    by_cases ho : xs[i] = ys[i]
    · rw [show (xs[i] == ys[i]) = true by simpa using ho, cond_true, ih (i + 1) e (by omega), dec_cons, decide_eq_true ho, Bool.true_and]
    · rw [show (xs[i] == ys[i]) = false by simpa using ho, cond_false, dec_cons, decide_eq_false ho, Bool.false_and]
theorem U95 (N d : Nat) (xs ys : List Int) (hl : xs.length < 1000) : sem tab (N + 1000) (d + 1) 54 [.l false (byL xs), .l false (byL ys)] [] = some (.b (decide (xs = ys)), []) := by
  rw [sem_succ tab (N + 1000) d 54 m54 rfl]
  have hx := byL_len xs
  have hy := byL_len ys
  by_cases he : xs.length = ys.length
  · have h := loopu95 (N + 1000) d xs ys he (by omega) xs.length 0 (N + 999 - xs.length) (by omega)
    rw [show N + 999 - xs.length + 1 + xs.length = N + 1000 by omega, k_loop] at h
    simp only [slu95, List.drop_zero] at h
    rw [show ((0 : Nat) : Int) = 0 from rfl] at h
    generalize decide (xs = ys) = q at *
    rw [← hx] at h
    rw [← hx, ← hy] at he
    generalize byL xs = a at *
    generalize byL ys = b at *
    have e1 : (((a.length : Nat) : Int) != ((b.length : Nat) : Int)) = false := by simp [he]
    simp -implicitDefEqProofs (maxSteps := 1000000) (disch := first | omega | rfl) [m54, h, e1, KS, getS, getO, gS, zipN, dropW, takeW, wds, stvs, sea, seaL, refs, refsL, refsEls, refsO, isPureEls, isPures, isPure, noExt, noExts, noExtEls, cellsL, ren, renL, renEls, keepO, keepS, keysO, refsS, refsOB, cntN, headC, setS, boxO, row, putW, putB, putB1, eNl, newOs, frz, renO, noExtO, zps, zp, two32, w64, -getElem?_pos]
  · have hd : decide (xs = ys) = false := decide_eq_false (fun e => he (by rw [e]))
    rw [hd]
    rw [← hx, ← hy] at he
    generalize byL xs = a at *
    generalize byL ys = b at *
    have e1 : (((a.length : Nat) : Int) != ((b.length : Nat) : Int)) = true := by simp; omega
    simp -implicitDefEqProofs (maxSteps := 1000000) (disch := first | omega | rfl) [m54, e1, KS, getS, getO, gS, zipN, dropW, takeW, wds, stvs, sea, seaL, refs, refsL, refsEls, refsO, isPureEls, isPures, isPure, noExt, noExts, noExtEls, cellsL, ren, renL, renEls, keepO, keepS, keysO, refsS, refsOB, cntN, headC, setS, boxO, row, putW, putB, putB1, eNl, newOs, frz, renO, noExtO, zps, zp, two32, w64, -getElem?_pos]
set_option maxHeartbeats 4000000 in
theorem U94 (N d : Nat) (u v : Us) (hl : u.2.2.length < 1000) : sem tab (N + 1000) (d + 2) 53 [.agg (uC u), .agg (uC v)] [] = some (.b (decide (u = v)), []) := by
  rw [sem_succ tab (N + 1000) (d + 1) 53 m53 rfl]
  obtain ⟨a, b, c⟩ := u
  obtain ⟨a', b', c'⟩ := v
  have h := U95 N d c c' hl
  simp only [uC, Prod.mk.injEq] at h ⊢
  by_cases e1 : a = a'
  · by_cases e2 : b = b'
    · subst e1; subst e2
      simp only [true_and]
      generalize decide (c = c') = q at *
      generalize byL c = x at *
      generalize byL c' = y at *
      simp -implicitDefEqProofs (maxSteps := 1000000) (disch := first | omega | rfl) [m53, h, KS, getS, getO, gS, zipN, dropW, takeW, wds, stvs, sea, seaL, refs, refsL, refsEls, refsO, isPureEls, isPures, isPure, noExt, noExts, noExtEls, cellsL, ren, renL, renEls, keepO, keepS, keysO, refsS, refsOB, cntN, headC, setS, boxO, row, putW, putB, putB1, eNl, newOs, frz, renO, noExtO, zps, zp, two32, w64, -getElem?_pos]
    · have e2' : (b == b') = false := by simpa using e2
      generalize byL c = x at *
      generalize byL c' = y at *
      simp -implicitDefEqProofs (maxSteps := 1000000) (disch := first | omega | rfl) [m53, e1, e2, e2', KS, getS, getO, gS, zipN, dropW, takeW, wds, stvs, sea, seaL, refs, refsL, refsEls, refsO, isPureEls, isPures, isPure, noExt, noExts, noExtEls, cellsL, ren, renL, renEls, keepO, keepS, keysO, refsS, refsOB, cntN, headC, setS, boxO, row, putW, putB, putB1, eNl, newOs, frz, renO, noExtO, zps, zp, two32, w64, -getElem?_pos]
  · have e1' : (a == a') = false := by simpa using e1
    generalize byL c = x at *
    generalize byL c' = y at *
    simp -implicitDefEqProofs (maxSteps := 1000000) (disch := first | omega | rfl) [m53, e1, e1', KS, getS, getO, gS, zipN, dropW, takeW, wds, stvs, sea, seaL, refs, refsL, refsEls, refsO, isPureEls, isPures, isPure, noExt, noExts, noExtEls, cellsL, ren, renL, renEls, keepO, keepS, keysO, refsS, refsOB, cntN, headC, setS, boxO, row, putW, putB, putB1, eNl, newOs, frz, renO, noExtO, zps, zp, two32, w64, -getElem?_pos]
def slu93 (a b : List (List PV)) (n i : Nat) : SL := [(1, .l false b), (2, .fn 53 [] []), (15, .l false a), (16, .i .i64 n), (17, .i .i64 i)]
theorem k_cav94 (Φ : Sem') (ob : OB) (n : Nat) (u v : Us) (b : Bool) (h : Φ 53 [.agg (uC u), .agg (uC v)] [] = some (.b b, [])) : cav Φ ob n false (.fn 53 [] []) [.agg (uC u), .agg (uC v)] = some (.b b, []) := by
  simp only [uC] at h ⊢
  simp [cav, ca, hand, reifies, reify, reifyL, reify0, refs, refsL, reach, h, back0, ren]
set_option maxHeartbeats 4000000 in
theorem stepu93 (N d : Nat) (g : SL → OB → Option R) (a b : List (List PV)) (n i : Nat) (u v : Us) (hx : a[i]? = some (uC u)) (hy : b[i]? = some (uC v)) (hi : i < n) (hn : n < 1000000) (hl : u.2.2.length < 1000) :
    m52b0 (sem tab (N + 1000) (d + 2)) (N + 1000) [] g (slu93 a b n i) [] = cond (decide (u = v)) (g (slu93 a b n (i + 1)) []) (some (.b false, [])) := by
  have h1 := U94 N d u v hl
  have k1 := fun ob => k_cav94 (sem tab (N + 1000) (d + 2)) ob 296 u v _ h1
  have w2 := w64n (i := i) (by omega)
  have ci : (i : Int) < n := by omega
  generalize decide (u = v) = q at *
  obtain ⟨u1, u2, u3⟩ := u
  obtain ⟨v1, v2, v3⟩ := v
  simp only [uC] at hx hy k1
  generalize byL u3 = x at *
  generalize byL v3 = y at *
  cases q
  · simp -implicitDefEqProofs (maxSteps := 1000000) (disch := first | omega | rfl) [m52b0, slu93, hx, hy, k1, w2, ci, KS, getS, getO, gS, zipN, dropW, takeW, wds, stvs, sea, seaL, refs, refsL, refsEls, refsO, isPureEls, isPures, isPure, noExt, noExts, noExtEls, cellsL, ren, renL, renEls, keepO, keepS, keysO, refsS, refsOB, cntN, headC, setS, boxO, row, putW, putB, putB1, eNl, newOs, frz, renO, noExtO, zps, zp, two32, w64, -getElem?_pos]
  · simp -implicitDefEqProofs (maxSteps := 1000000) (disch := first | omega | rfl) [m52b0, slu93, hx, hy, k1, w2, ci, KS, getS, getO, gS, zipN, dropW, takeW, wds, stvs, sea, seaL, refs, refsL, refsEls, refsO, isPureEls, isPures, isPure, noExt, noExts, noExtEls, cellsL, ren, renL, renEls, keepO, keepS, keysO, refsS, refsOB, cntN, headC, setS, boxO, row, putW, putB, putB1, eNl, newOs, frz, renO, noExtO, zps, zp, two32, w64, -getElem?_pos]
set_option maxHeartbeats 4000000 in
theorem endu93 (N d : Nat) (g : SL → OB → Option R) (a b : List (List PV)) (n : Nat) : m52b0 (sem tab N d) N [] g (slu93 a b n n) [] = some (.b true, []) := by
  simp -implicitDefEqProofs (maxSteps := 1000000) (disch := first | omega | rfl) [m52b0, slu93, KS, getS, getO, gS, zipN, dropW, takeW, wds, stvs, sea, seaL, refs, refsL, refsEls, refsO, isPureEls, isPures, isPure, noExt, noExts, noExtEls, cellsL, ren, renL, renEls, keepO, keepS, keysO, refsS, refsOB, cntN, headC, setS, boxO, row, putW, putB, putB1, eNl, newOs, frz, renO, noExtO, zps, zp, two32, w64, -getElem?_pos]
theorem loopu93 (N d : Nat) (l m : List Us) (he : l.length = m.length) (hl : l.length < 1000000) (hk : ∀ u ∈ l, u.2.2.length < 1000) : ∀ (k i e : Nat), i + k = l.length →
    loopC (m52b0 (sem tab (N + 1000) (d + 2)) (N + 1000) []) (e + 1 + k) (slu93 (usL l) (usL m) l.length i) [] = some (.b (decide (l.drop i = m.drop i)), []) := by
  intro k
  induction k with
  | zero =>
    intro i e h
    have : i = l.length := by omega
    subst this
    rw [Nat.add_zero, k_loop, endu93, List.drop_length, he, List.drop_length]; rfl
  | succ k ih =>
    intro i e h
    have hi : i < l.length := by omega
    have hi' : i < m.length := by omega
    have q1 := List.drop_eq_getElem_cons hi
    have q2 := List.drop_eq_getElem_cons hi'
    rw [← Nat.add_assoc, k_loop, stepu93 N d _ (usL l) (usL m) l.length i _ _ (usL_get l i hi) (usL_get m i hi') hi hl (hk _ (List.getElem_mem hi)), q1, q2]
    by_cases ho : l[i] = m[i]
    · rw [dec_cons, decide_eq_true ho, cond_true, ih (i + 1) e (by omega), Bool.true_and]
    · rw [dec_cons, decide_eq_false ho, cond_false, Bool.false_and]
theorem U93 (N d : Nat) (l m : List Us) (hl : l.length < 1000) (hk : ∀ u ∈ l, u.2.2.length < 1000) : sem tab (N + 1000) (d + 3) 52 [.l false (usL l), .l false (usL m), .fn 53 [] []] [] = some (.b (decide (l = m)), []) := by
  rw [sem_succ tab (N + 1000) (d + 2) 52 m52 rfl]
  have hx := usL_len l
  have hy := usL_len m
  by_cases he : l.length = m.length
  · have h := loopu93 N d l m he (by omega) hk l.length 0 (N + 999 - l.length) (by omega)
    rw [show N + 999 - l.length + 1 + l.length = N + 1000 by omega, k_loop] at h
    simp only [slu93, List.drop_zero] at h
    rw [show ((0 : Nat) : Int) = 0 from rfl] at h
    generalize decide (l = m) = q at *
    rw [← hx] at h
    rw [← hx, ← hy] at he
    generalize usL l = a at *
    generalize usL m = b at *
    have e1 : (((a.length : Nat) : Int) != ((b.length : Nat) : Int)) = false := by simp [he]
    simp -implicitDefEqProofs (maxSteps := 1000000) (disch := first | omega | rfl) [m52, h, e1, KS, getS, getO, gS, zipN, dropW, takeW, wds, stvs, sea, seaL, refs, refsL, refsEls, refsO, isPureEls, isPures, isPure, noExt, noExts, noExtEls, cellsL, ren, renL, renEls, keepO, keepS, keysO, refsS, refsOB, cntN, headC, setS, boxO, row, putW, putB, putB1, eNl, newOs, frz, renO, noExtO, zps, zp, two32, w64, -getElem?_pos]
  · have hd : decide (l = m) = false := decide_eq_false (fun e => he (by rw [e]))
    rw [hd]
    rw [← hx, ← hy] at he
    generalize usL l = a at *
    generalize usL m = b at *
    have e1 : (((a.length : Nat) : Int) != ((b.length : Nat) : Int)) = true := by simp; omega
    simp -implicitDefEqProofs (maxSteps := 1000000) (disch := first | omega | rfl) [m52, e1, KS, getS, getO, gS, zipN, dropW, takeW, wds, stvs, sea, seaL, refs, refsL, refsEls, refsO, isPureEls, isPures, isPure, noExt, noExts, noExtEls, cellsL, ren, renL, renEls, keepO, keepS, keysO, refsS, refsOB, cntN, headC, setS, boxO, row, putW, putB, putB1, eNl, newOs, frz, renO, noExtO, zps, zp, two32, w64, -getElem?_pos]
theorem k_ca93 (Φ : Sem') (ob : OB) (n : Nat) (a b : List (List PV)) (q : Bool) (h : Φ 52 [.l false a, .l false b, .fn 53 [] []] [] = some (.b q, [])) : ca Φ ob n false 52 [.l false a, .l false b, .fn 53 [] []] = some (.b q, []) := by
  simp [ca, hand, reifies, reify, reify0, refs, refsL, reach, h, back0, ren]
theorem U33u (N d : Nat) (l m : List Us) (hl : l.length < 1000) (hk : ∀ u ∈ l, u.2.2.length < 1000) : sem tab (N + 1000) (d + 4) 22 [.l false (usL l), .l false (usL m)] [] = some (.b (decide (l = m)), []) := by
  rw [sem_succ tab (N + 1000) (d + 3) 22 m22 rfl]
  have h := U93 N d l m hl hk
  have k := fun ob => k_ca93 (sem tab (N + 1000) (d + 3)) ob 120 (usL l) (usL m) _ h
  generalize usL l = a at *
  generalize usL m = b at *
  simp -implicitDefEqProofs (maxSteps := 1000000) (disch := first | omega | rfl) [m22, k, KS, getS, getO, gS, zipN, dropW, takeW, wds, stvs, sea, seaL, refs, refsL, refsEls, refsO, isPureEls, isPures, isPure, noExt, noExts, noExtEls, cellsL, ren, renL, renEls, keepO, keepS, keysO, refsS, refsOB, cntN, headC, setS, boxO, row, putW, putB, putB1, eNl, newOs, frz, renO, noExtO, zps, zp, two32, w64, -getElem?_pos]
end
/-! ## PureUd -/
section
/-- The last k bytes of a number, the highest first. -/
def be : Nat → Int → List Int
  | 0, _ => []
  | k + 1, n => be k (n / 256) ++ [n % 256]
theorem be_len : ∀ (k : Nat) (n : Int), (be k n).length = k
  | 0, _ => rfl
  | k + 1, n => by simp [be, be_len k]
theorem be_range : ∀ (k : Nat) (n : Int), ∀ x ∈ be k n, 0 ≤ x ∧ x ≤ 255
  | 0, _, x, h => by simp [be] at h
  | k + 1, n, x, h => by
    simp only [be, List.mem_append, List.mem_singleton] at h
    rcases h with h | h
    · exact be_range k _ x h
    · omega
theorem w8m (n : Int) : IntKind.u8.wrap n = n % 256 := by rw [IntKind.wrap_u8]
theorem shr8 (n : Int) (h : 0 ≤ n) : n.fdiv (2 ^ (min 8 IntKind.u64.bits)) = n / 256 := by
  show n.fdiv 256 = _
  rw [Int.fdiv_eq_ediv_of_nonneg _ (by omega)]
def rowK (t : List (List PV)) (k : Nat) : Obj' := { els := t, w := 1, pu := true, g := true, cap := some k, ver := 0, fro := false }
def slu98 (k : Nat) (n i : Int) : SL := [(0, .i .u64 n), (6, .sl 248 0 0 k), (7, .i .i64 i)]
set_option maxHeartbeats 4000000 in
theorem stepu98 (N d : Nat) (g : SL → OB → Option R) (t : List (List PV)) (k i : Nat) (n : Int) (hi : i + 1 < k) (hk : k ≤ 8) (ht : t.length = k) (hv : t[i + 1]? = some [.i .u8 0]) (hn : 0 ≤ n) :
    m57j0 (sem tab N d) N [] g (slu98 k n (i + 1 : Nat)) [(248, rowK t k)] = g (slu98 k (n / 256) i) [(248, rowK (t.set (i + 1) [.i .u8 (n % 256)]) k)] := by
  have e := w8m n
  have e2 := shr8 n hn
  have w1 : IntKind.i64.wrap (((i : Int) + 1) - 1) = i := by rw [w64 (by omega) (by omega)]; omega
  have w1' : IntKind.i64.wrap (i : Int) = i := w64 (by omega) (by omega)
  have c1 : 0 ≤ (i : Int) + 1 := by omega
  have c2 : (i : Int) + 1 < k := by omega
  have c3 : ((i : Int) + 1).toNat = i + 1 := by omega
  subst ht
  simp -implicitDefEqProofs (maxSteps := 1000000) (disch := first | omega | rfl) [m57j0, slu98, rowK, e, e2, w1, w1', c1, c2, c3, hi, hv, KS, getS, getO, gS, zipN, dropW, takeW, wds, stvs, sea, seaL, refs, refsL, refsEls, refsO, isPureEls, isPures, isPure, noExt, noExts, noExtEls, cellsL, ren, renL, renEls, keepO, keepS, keysO, refsS, refsOB, cntN, headC, setS, boxO, row, putW, putB, putB1, eNl, newOs, frz, renO, noExtO, zps, zp, two32, w64, -getElem?_pos]
set_option maxHeartbeats 4000000 in
theorem endu98 (N d : Nat) (g : SL → OB → Option R) (t : List (List PV)) (k : Nat) (n : Int) (h0 : 0 < k) (hk : k ≤ 8) (ht : t.length = k) (hv : t[0]? = some [.i .u8 0]) (hn : 0 ≤ n) :
    m57j0 (sem tab N d) N [] g (slu98 k n 0) [(248, rowK t k)] = some (.tup [.sl 0 0 0 k, .b true], [row (t.set 0 [.i .u8 (n % 256)]) 1 true]) := by
  have e := w8m n
  have e2 := shr8 n hn
  have c2 : (0 : Int) < k := by omega
  subst ht
  have tk : ∀ v, List.take t.length (t.set 0 v) = t.set 0 v := fun v => List.take_of_length_le (by simp)
  simp -implicitDefEqProofs (maxSteps := 1000000) (disch := first | omega | rfl) [m57j0, slu98, rowK, e, e2, c2, h0, tk, hv, KS, getS, getO, gS, zipN, dropW, takeW, wds, stvs, sea, seaL, refs, refsL, refsEls, refsO, isPureEls, isPures, isPure, noExt, noExts, noExtEls, cellsL, ren, renL, renEls, keepO, keepS, keysO, refsS, refsOB, cntN, headC, setS, boxO, row, putW, putB, putB1, eNl, newOs, frz, renO, noExtO, zps, zp, two32, w64, -getElem?_pos]
theorem set_end (z : List (List PV)) (i : Nat) (v : List PV) (hz : z.length = i) (w : List PV) (r : List (List PV)) : (z ++ w :: r).set i v = z ++ v :: r := by
  subst hz; simp
/-- Bytes that are written from behind. -/
theorem loopu98 (N d : Nat) (k : Nat) (hk : k ≤ 8) : ∀ (i e : Nat) (n : Int) (r : List Int), i + 1 + r.length = k → 0 ≤ n →
    loopC (m57j0 (sem tab N d) N []) (e + 1 + i) (slu98 k n i) [(248, rowK (byL (List.replicate (i + 1) 0) ++ byL r) k)] = some (.tup [.sl 0 0 0 k, .b true], [row (byL (be (i + 1) n ++ r)) 1 true]) := by
  intro i
  induction i with
  | zero =>
    intro e n r h hn
    rw [Nat.add_zero, k_loop]
    have := endu98 N d (loopC (m57j0 (sem tab N d) N []) e) (byL (List.replicate (0 + 1) 0) ++ byL r) k n (by omega) hk (by simp [byL]; omega) (by simp [byL]) hn
    rw [show ((0 : Nat) : Int) = 0 from rfl, this]
    simp [be, byL]
  | succ i ih =>
    intro e n r h hn
    rw [← Nat.add_assoc, k_loop, stepu98 N d _ _ k i n (by omega) hk (by simp [byL]; omega) (by rw [List.getElem?_append_left (by simp [byL])]; simp [byL]) hn]
    have h1 : (byL (List.replicate (i + 1 + 1) 0) ++ byL r).set (i + 1) [.i .u8 (n % 256)] = byL (List.replicate (i + 1) 0) ++ byL ((n % 256) :: r) := by
      rw [show byL (List.replicate (i + 1 + 1) 0) ++ byL r = byL (List.replicate (i + 1) 0) ++ [.i .u8 0] :: byL r by rw [List.replicate_succ' (n := i + 1)]; simp [byL]]
      rw [set_end _ _ _ (by simp [byL])]
      rfl
    rw [h1, ih e (n / 256) ((n % 256) :: r) (by simp; omega) (by omega)]
    simp [be, byL]
theorem U146 (N d : Nat) (k : Int) : sem tab N (d + 1) 77 [.i .i64 k] [] = some (.b (inB k 1 8), []) := by
  rw [sem_succ tab N d 77 m77 rfl]
  by_cases h : 1 ≤ k <;> simp -implicitDefEqProofs (disch := first | omega | rfl) [m77, inB, h, KS, getS, getO, gS, zipN, dropW, takeW, wds, stvs, sea, seaL, refs, refsL, refsEls, refsO, isPureEls, isPures, isPure, noExt, noExts, noExtEls, cellsL, ren, renL, renEls, keepO, keepS, keysO, refsS, refsOB, cntN, headC, setS, boxO, row, putW, putB, putB1, eNl, newOs, frz, renO, noExtO, zps, zp, two32, w64, -getElem?_pos]
/-- Does a number fit? -/
def fitsB (n : Int) (k : Nat) : Bool := k == 8 || (n / 256 ^ k == 0)
theorem shrk (n : Int) (k : Nat) (h : 0 ≤ n) (hk : k < 8) : n.fdiv (2 ^ (min (8 * (k : Int)).toNat IntKind.u64.bits)) = n / 256 ^ k := by
  have e : min (8 * (k : Int)).toNat IntKind.u64.bits = 8 * k := by
    show min (8 * (k : Int)).toNat 64 = 8 * k
    omega
  have e3 : (2 : Int) ^ (8 * k) = 256 ^ k := (by decide : ∀ k < 8, (2 : Int) ^ (8 * k) = 256 ^ k) k hk
  have e4 : (0 : Int) ≤ 256 ^ k := (by decide : ∀ k < 8, (0 : Int) ≤ 256 ^ k) k hk
  rw [e, e3, Int.fdiv_eq_ediv_of_nonneg _ e4]
theorem k_mksK (k : Nat) (hk : k ≤ 8) (o : Nat) : mks [] o [.i .u8 0] (.i .i64 (k : Int)) = some (.sl o 0 0 k, [(o, rowK (byL (List.replicate k 0)) k)]) := by
  have h : (k : Int) ≤ 4294967296 := by omega
  simp [mks, newX, getO, isPures, isPure, zps, zp, wds, wd, rowK, two32, byL, h]
set_option maxHeartbeats 8000000 in
/-- A number's bytes. -/
theorem U98 (N d : Nat) (n : Int) (k : Nat) (h0 : 1 ≤ k) (hk : k ≤ 8) (hn : 0 ≤ n) : sem tab (N + 100) (d + 2) 57 [.i .u64 n, .i .i64 k] [] = cond (fitsB n k) (some (.tup [.sl 0 0 0 k, .b true], [row (byL (be k n)) 1 true])) (some (.tup [.sl 0 0 0 0, .b false], [row [] 1 true])) := by
  rw [sem_succ tab (N + 100) (d + 1) 57 m57 rfl]
  have h146 := U146 (N + 100) d k
  have b1 : inB k 1 8 = true := by simp only [inB, Bool.and_eq_true, decide_eq_true_eq]; omega
  rw [b1] at h146
  have km := k_mksK k hk 248
  have zl : (byL (List.replicate k 0)).length = k := by simp [byL]
  have zv : ∀ i, i < k → (byL (List.replicate k 0))[i]? = some [.i .u8 0] := fun i hi => by simp [byL, hi]
  have e := w8m n
  have e2 := shr8 n hn
  have w8 : IntKind.i64.wrap (8 * (k : Int)) = 8 * k := w64 (by omega) (by omega)
  have c8 : ¬ (8 * (k : Int) < 0) := by omega
  -- does it fit?
  have look : ∀ P : Bool → Prop, (k = 8 → P true) → (k < 8 → (n / 256 ^ k == 0) = true → P true) → (k < 8 → (n / 256 ^ k == 0) = false → P false) → P (fitsB n k) := by
    intro P h1 h2 h3
    unfold fitsB
    by_cases e8 : k = 8
    · rw [show (k == 8) = true by simpa using e8]; exact h1 e8
    · rw [show (k == 8) = false by simpa using e8, Bool.false_or]
      cases hq : (n / 256 ^ k == 0)
      · exact h3 (by omega) hq
      · exact h2 (by omega) hq
  have no : k < 8 → (n / 256 ^ k == 0) = false → m57 (sem tab (N + 100) (d + 1)) (N + 100) [.i .u64 n, .i .i64 k] [] = some (.tup [.sl 0 0 0 0, .b false], [row [] 1 true]) := by
    intro h8 hq
    have c : (k : Int) < 8 := by omega
    have hs := shrk n k hn h8
    have hq' : (n / 256 ^ k != 0) = true := by simpa using hq
    generalize n / 256 ^ k = q at *
    simp -implicitDefEqProofs (maxSteps := 1000000) (disch := first | omega | rfl) [m57, h146, c, w8, c8, hs, hq', KS, getS, getO, gS, zipN, dropW, takeW, wds, stvs, sea, seaL, refs, refsL, refsEls, refsO, isPureEls, isPures, isPure, noExt, noExts, noExtEls, cellsL, ren, renL, renEls, keepO, keepS, keysO, refsS, refsOB, cntN, headC, setS, boxO, row, putW, putB, putB1, eNl, newOs, frz, renO, noExtO, zps, zp, two32, w64, -getElem?_pos]
  have yes : k = 8 ∨ (k < 8 ∧ (n / 256 ^ k == 0) = true) → m57 (sem tab (N + 100) (d + 1)) (N + 100) [.i .u64 n, .i .i64 k] [] = some (.tup [.sl 0 0 0 k, .b true], [row (byL (be k n)) 1 true]) := by
    intro h8
    by_cases k1 : k = 1
    · subst k1
      have hs := shrk n 1 hn (by omega)
      have hq' : (n / 256 ^ 1 != 0) = false := by
        rcases h8 with h8 | h8
        · omega
        · simpa using h8.2
      generalize n / 256 ^ 1 = q at *
      have hz : byL (be 1 n) = [[.i .u8 (n % 256)]] := by simp [be, byL]
      rw [hz]
      simp only [show byL (List.replicate 1 0) = [[PV.i .u8 0]] from rfl] at km
      have hs' : n.fdiv (2 ^ min 8 IntKind.u64.bits) = q := hs
      have w1 : IntKind.i64.wrap (1 - 1) = 0 := by decide
      have w2 : IntKind.i64.wrap (0 - 1) = -1 := by decide
      have w3 : IntKind.i64.wrap (8 * 1) = 8 := by decide
      simp only [show ((1 : Nat) : Int) = 1 from rfl] at *
      simp -implicitDefEqProofs (maxSteps := 1000000) (disch := first | omega | rfl) [m57, h146, km, rowK, w1, w2, w3, hs', hq', e, KS, getS, getO, gS, zipN, dropW, takeW, wds, stvs, sea, seaL, refs, refsL, refsEls, refsO, isPureEls, isPures, isPure, noExt, noExts, noExtEls, cellsL, ren, renL, renEls, keepO, keepS, keysO, refsS, refsOB, cntN, headC, setS, boxO, row, putW, putB, putB1, eNl, newOs, frz, renO, noExtO, zps, zp, two32, w64, -getElem?_pos]
    · obtain ⟨i, hi⟩ : ∃ i, k = i + 2 := ⟨k - 2, by omega⟩
      have h := loopu98 (N + 100) (d + 1) k hk i (N + 99 - i) (n / 256) [n % 256] (by simp; omega) (by omega)
      rw [show N + 99 - i + 1 + i = N + 100 by omega, k_loop] at h
      have hb : be k n = be (i + 1) (n / 256) ++ [n % 256] := by rw [hi]; rfl
      rw [hb]
      have hset : (byL (List.replicate k 0)).set (i + 1) [.i .u8 (n % 256)] = byL (List.replicate (i + 1) 0) ++ byL [n % 256] := by
        rw [hi, List.replicate_succ' (n := i + 1)]
        simp only [byL, List.map_append, List.map_cons, List.map_nil]
        rw [set_end _ _ _ (by simp)]
      rw [← hset] at h
      have zi := zv (i + 1) (by omega)
      generalize byL (be (i + 1) (n / 256) ++ [n % 256]) = res at *
      generalize byL (List.replicate k 0) = z at *
      have w1 : IntKind.i64.wrap ((k : Int) - 1) = (i : Int) + 1 := by rw [w64 (by omega) (by omega)]; omega
      have w2 : IntKind.i64.wrap ((i : Int) + 1 - 1) = i := by rw [w64 (by omega) (by omega)]; omega
      have w2' : IntKind.i64.wrap (i : Int) = i := w64 (by omega) (by omega)
      have c1 : 0 ≤ (i : Int) + 1 := by omega
      have c2 : (i : Int) + 1 < k := by omega
      have c3 : ((i : Int) + 1).toNat = i + 1 := by omega
      clear zv look no hset hb
      simp only [slu98, rowK] at h km
      rcases h8 with h8 | ⟨h8, hq⟩
      · have c : ¬ ((k : Int) < 8) := by omega
        simp -implicitDefEqProofs (maxSteps := 1000000) (disch := first | omega | rfl) [m57, h146, km, h, c, w1, w2, w2', c1, c2, c3, zl, zi, e, e2, KS, getS, getO, gS, zipN, dropW, takeW, wds, stvs, sea, seaL, refs, refsL, refsEls, refsO, isPureEls, isPures, isPure, noExt, noExts, noExtEls, cellsL, ren, renL, renEls, keepO, keepS, keysO, refsS, refsOB, cntN, headC, setS, boxO, row, putW, putB, putB1, eNl, newOs, frz, renO, noExtO, zps, zp, two32, w64, -getElem?_pos]
      · have c : (k : Int) < 8 := by omega
        have hs := shrk n k hn h8
        have hq' : (n / 256 ^ k != 0) = false := by simpa using hq
        generalize n / 256 ^ k = q at *
        simp -implicitDefEqProofs (maxSteps := 1000000) (disch := first | omega | rfl) [m57, h146, km, h, c, w8, c8, hs, hq', w1, w2, w2', c1, c2, c3, zl, zi, e, e2, KS, getS, getO, gS, zipN, dropW, takeW, wds, stvs, sea, seaL, refs, refsL, refsEls, refsO, isPureEls, isPures, isPure, noExt, noExts, noExtEls, cellsL, ren, renL, renEls, keepO, keepS, keysO, refsS, refsOB, cntN, headC, setS, boxO, row, putW, putB, putB1, eNl, newOs, frz, renO, noExtO, zps, zp, two32, w64, -getElem?_pos]
  exact look (fun q => m57 (sem tab (N + 100) (d + 1)) (N + 100) [.i .u64 n, .i .i64 k] [] = cond q (some (.tup [.sl 0 0 0 k, .b true], [row (byL (be k n)) 1 true])) (some (.tup [.sl 0 0 0 0, .b false], [row [] 1 true]))) (fun h => yes (.inl h)) (fun h h' => yes (.inr ⟨h, h'⟩)) no
end
/-! ## PureUe -/
section
def slu145 (k : Nat) (n i : Int) : SL := [(0, .i .u64 n), (6, .sl 184 0 0 k), (7, .i .i64 i)]
set_option maxHeartbeats 4000000 in
theorem stepu145 (N d : Nat) (g : SL → OB → Option R) (t : List (List PV)) (k j : Nat) (n : Int) (hj : j < k) (hk : k ≤ 8) (ht : t.length = k) (hv : t[j]? = some [.i .u8 0]) (hn : 0 ≤ n ∧ n ≤ 18446744073709551615) :
    m75b0 (sem tab N d) N [] g (slu145 k n j) [(184, rowK t k)] = g (slu145 k (n / 256) ((j : Int) - 1)) [(184, rowK (t.set j [.i .u8 (n % 256)]) k)] := by
  have e : IntKind.u8.wrap (n.tmod 256) = n % 256 := by rw [IntKind.wrap_u8, Int.tmod_eq_emod_of_nonneg hn.1]; omega
  have e2 : IntKind.u64.wrap (n.tdiv 256) = n / 256 := by rw [IntKind.wrap_u64, Int.tdiv_eq_ediv_of_nonneg hn.1]; omega
  have w1 : IntKind.i64.wrap ((j : Int) - 1) = (j : Int) - 1 := w64 (by omega) (by omega)
  have c1 : 0 ≤ (j : Int) := by omega
  have c2 : (j : Int) < k := by omega
  subst ht
  simp -implicitDefEqProofs (maxSteps := 1000000) (disch := first | omega | rfl) [m75b0, slu145, rowK, e, e2, w1, c1, c2, hj, hv, KS, getS, getO, gS, zipN, dropW, takeW, wds, stvs, sea, seaL, refs, refsL, refsEls, refsO, isPureEls, isPures, isPure, noExt, noExts, noExtEls, cellsL, ren, renL, renEls, keepO, keepS, keysO, refsS, refsOB, cntN, headC, setS, boxO, row, putW, putB, putB1, eNl, newOs, frz, renO, noExtO, zps, zp, two32, w64, -getElem?_pos]
set_option maxHeartbeats 4000000 in
theorem endu145 (N d : Nat) (g : SL → OB → Option R) (t : List (List PV)) (k : Nat) (n : Int) (ht : t.length = k) (hk : 0 < k) :
    m75b0 (sem tab N d) N [] g (slu145 k n (-1)) [(184, rowK t k)] = cond (n == 0) (some (.tup [.sl 0 0 0 k, .b true], [row t 1 true])) (some (.tup [.sl 0 0 0 0, .b false], [row [] 1 true])) := by
  subst ht
  have tk : List.take t.length t = t := List.take_length
  by_cases c : n = 0
  · subst c
    simp -implicitDefEqProofs (maxSteps := 1000000) (disch := first | omega | rfl) [m75b0, slu145, rowK, tk, KS, getS, getO, gS, zipN, dropW, takeW, wds, stvs, sea, seaL, refs, refsL, refsEls, refsO, isPureEls, isPures, isPure, noExt, noExts, noExtEls, cellsL, ren, renL, renEls, keepO, keepS, keysO, refsS, refsOB, cntN, headC, setS, boxO, row, putW, putB, putB1, eNl, newOs, frz, renO, noExtO, zps, zp, two32, w64, -getElem?_pos]
  · have c' : (n == 0) = false := by simpa using c
    have c2 : (n != 0) = true := by simpa using c
    simp -implicitDefEqProofs (maxSteps := 1000000) (disch := first | omega | rfl) [m75b0, slu145, rowK, tk, c', c2, KS, getS, getO, gS, zipN, dropW, takeW, wds, stvs, sea, seaL, refs, refsL, refsEls, refsO, isPureEls, isPures, isPure, noExt, noExts, noExtEls, cellsL, ren, renL, renEls, keepO, keepS, keysO, refsS, refsOB, cntN, headC, setS, boxO, row, putW, putB, putB1, eNl, newOs, frz, renO, noExtO, zps, zp, two32, w64, -getElem?_pos]
theorem loopu145 (N d : Nat) (k : Nat) (hk : 0 < k ∧ k ≤ 8) : ∀ (j e : Nat) (n : Int) (r : List Int), j + r.length = k → 0 ≤ n ∧ n ≤ 18446744073709551615 →
    loopC (m75b0 (sem tab N d) N []) (e + 1 + j) (slu145 k n ((j : Int) - 1)) [(184, rowK (byL (List.replicate j 0) ++ byL r) k)] = cond (n / 256 ^ j == 0) (some (.tup [.sl 0 0 0 k, .b true], [row (byL (be j n ++ r)) 1 true])) (some (.tup [.sl 0 0 0 0, .b false], [row [] 1 true])) := by
  intro j
  induction j with
  | zero =>
    intro e n r h hn
    rw [Nat.add_zero, k_loop]
    have := endu145 N d (loopC (m75b0 (sem tab N d) N []) e) (byL (List.replicate 0 0) ++ byL r) k n (by simp [byL]; omega) hk.1
    rw [show ((0 : Nat) : Int) - 1 = -1 from rfl, this]
    simp [be, byL]
  | succ j ih =>
    intro e n r h hn
    have h1 : (byL (List.replicate (j + 1) 0) ++ byL r).set j [.i .u8 (n % 256)] = byL (List.replicate j 0) ++ byL ((n % 256) :: r) := by
      rw [show byL (List.replicate (j + 1) 0) ++ byL r = byL (List.replicate j 0) ++ [.i .u8 0] :: byL r by rw [List.replicate_succ' (n := j)]; simp [byL]]
      rw [set_end _ _ _ (by simp [byL])]
      rfl
    have hp : (0 : Int) ≤ 256 ^ j := by exact Int.pow_nonneg (by omega)
    rw [← Nat.add_assoc, k_loop, show (((j + 1 : Nat) : Int) - 1) = (j : Int) by omega, stepu145 N d _ _ k j n (by omega) hk.2 (by simp [byL]; omega) (by rw [List.getElem?_append_left (by simp [byL])]; simp [byL]) hn, h1, ih e (n / 256) ((n % 256) :: r) (by simp; omega) (by omega)]
    rw [Int.ediv_ediv, if_neg (by omega), Int.sub_zero, show (256 : Int) * 256 ^ j = 256 ^ (j + 1) by rw [Int.pow_succ, Int.mul_comm]]
    simp [be]
theorem fits8 (n : Int) (k : Nat) (hk : k ≤ 8) (hn : 0 ≤ n ∧ n ≤ 18446744073709551615) : (n / 256 ^ k == 0) = fitsB n k := by
  unfold fitsB
  by_cases e8 : k = 8
  · subst e8
    have : n / 256 ^ 8 = 0 := Int.ediv_eq_zero_of_lt hn.1 (by omega)
    rw [this]; rfl
  · rw [show (k == 8) = false by simpa using e8, Bool.false_or]
set_option maxHeartbeats 8000000 in
theorem U145 (N d : Nat) (n : Int) (k : Nat) (h0 : 1 ≤ k) (hk : k ≤ 8) (hn : 0 ≤ n ∧ n ≤ 18446744073709551615) : sem tab (N + 100) (d + 1) 75 [.i .u64 n, .i .i64 k] [] = cond (fitsB n k) (some (.tup [.sl 0 0 0 k, .b true], [row (byL (be k n)) 1 true])) (some (.tup [.sl 0 0 0 0, .b false], [row [] 1 true])) := by
  rw [sem_succ tab (N + 100) d 75 m75 rfl]
  have h := loopu145 (N + 100) d k ⟨h0, hk⟩ k (N + 99 - k) n [] (by simp) hn
  rw [show N + 99 - k + 1 + k = N + 100 by omega, k_loop, List.append_nil, fits8 n k hk hn] at h
  have km := k_mksK k hk 184
  simp only [show byL [] = [] from rfl, List.append_nil] at h
  have w1 : IntKind.i64.wrap ((k : Int) - 1) = (k : Int) - 1 := w64 (by omega) (by omega)
  have c1 : ¬ ((k : Int) < 1) := by omega
  have c2 : ¬ ((k : Int) > 8) := by omega
  have c2' : ¬ (8 < (k : Int)) := by omega
  generalize byL (be k n) = r at *
  generalize byL (List.replicate k 0) = z at *
  generalize fitsB n k = q at *
  simp only [slu145, rowK] at h km
  simp -implicitDefEqProofs (maxSteps := 1000000) (disch := first | omega | rfl) [m75, km, h, w1, c1, c2, c2', KS, getS, getO, gS, zipN, dropW, takeW, wds, stvs, sea, seaL, refs, refsL, refsEls, refsO, isPureEls, isPures, isPure, noExt, noExts, noExtEls, cellsL, ren, renL, renEls, keepO, keepS, keysO, refsS, refsOB, cntN, headC, setS, boxO, row, putW, putB, putB1, eNl, newOs, frz, renO, noExtO, zps, zp, two32, w64, -getElem?_pos]
/-- Numbers, and how many bytes each takes. -/
def nuL (l : List (Int × Nat)) : List (List PV) := l.map fun x => [.i .u64 x.1, .i .i64 x.2]
theorem nuL_len (l : List (Int × Nat)) : (nuL l).length = l.length := by simp [nuL]
theorem nuL_get (l : List (Int × Nat)) (i : Nat) (h : i < l.length) : (nuL l)[i]? = some [.i .u64 l[i].1, .i .i64 l[i].2] := by simp [nuL, h]
/-- The bytes of several. -/
def catB : List (Int × Nat) → List Int
  | [] => []
  | x :: r => be x.2 x.1 ++ catB r
theorem catB_range : ∀ (l : List (Int × Nat)), ∀ x ∈ catB l, 0 ≤ x ∧ x ≤ 255
  | [], x, h => by simp [catB] at h
  | y :: r, x, h => by
    simp only [catB, List.mem_append] at h
    rcases h with h | h
    · exact be_range _ _ x h
    · exact catB_range r x h
def fitAll : List (Int × Nat) → Bool
  | [] => true
  | x :: r => fitsB x.1 x.2 && fitAll r
def okNu (x : Int × Nat) : Prop := 1 ≤ x.2 ∧ x.2 ≤ 8 ∧ 0 ≤ x.1 ∧ x.1 ≤ 18446744073709551615
def slu39 (ys : List (List PV)) (t : Nat) (n i : Nat) : SL := [(4, .sl 103 0 0 t), (12, .l false ys), (13, .i .i64 n), (14, .i .i64 i)]
set_option maxHeartbeats 8000000 in
theorem stepu39 (N d : Nat) (g : SL → OB → Option R) (ys : List (List PV)) (t : List (List PV)) (n i : Nat) (x : Int × Nat) (hx : ys[i]? = some [.i .u64 x.1, .i .i64 x.2]) (hi : i < n) (hn : n ≤ 40) (ho : okNu x) (ht : t.length ≤ 100000) :
    m28b0 (sem tab (N + 100) (d + 2)) (N + 100) [] g (slu39 ys t.length n i) [(103, row t 1 true)] = cond (fitsB x.1 x.2) (g (slu39 ys (t ++ byL (be x.2 x.1)).length n (i + 1)) [(103, row (t ++ byL (be x.2 x.1)) 1 true)]) (some (.tup [.sl 0 0 0 0, .b false], [row [] 1 true])) := by
  obtain ⟨v, k⟩ := x
  obtain ⟨o1, o2, o3, o4⟩ := ho
  have h98 := U98 N d v k o1 o2 o3
  have hl := be_len k v
  have hl2 := byL_len (be k v)
  have fl := flat_by (be k v)
  have al := allW_by (be k v)
  rw [hl] at hl2
  simp only at hx h98 ⊢ o1 o2
  generalize byL (be k v) = b at *
  have w2 := w64n (i := i) (by omega)
  have ci : (i : Int) < n := by omega
  have tt : List.take k b = b := List.take_of_length_le (by omega)
  have t2 : List.take t.length t = t := List.take_length
  have e0 : t.length + k ≤ 4294967296 := by omega
  have e1 : ¬ (t.length + k ≤ t.length) := by omega
  have e3 : (t ++ b).length = t.length + k := by simp [hl2]
  have e4 : List.take (t.length + k) (t ++ b) = t ++ b := List.take_of_length_le (by omega)
  have e5 : b.length ≤ 4294967296 := by omega
  cases q : fitsB v k
  · rw [q] at h98
    simp -implicitDefEqProofs (maxSteps := 1000000) (disch := first | omega | rfl) [m28b0, slu39, hx, h98, w2, ci, KS, getS, getO, gS, zipN, dropW, takeW, wds, stvs, sea, seaL, refs, refsL, refsEls, refsO, isPureEls, isPures, isPure, noExt, noExts, noExtEls, cellsL, ren, renL, renEls, keepO, keepS, keysO, refsS, refsOB, cntN, headC, setS, boxO, row, putW, putB, putB1, eNl, newOs, frz, renO, noExtO, zps, zp, two32, w64, -getElem?_pos]
  · rw [q] at h98
    simp -implicitDefEqProofs (maxSteps := 1000000) (disch := first | omega | rfl) [m28b0, slu39, hx, h98, w2, ci, tt, t2, e0, e1, e3, e4, e5, fl, al, hl2, KS, getS, getO, gS, zipN, dropW, takeW, wds, stvs, sea, seaL, refs, refsL, refsEls, refsO, isPureEls, isPures, isPure, noExt, noExts, noExtEls, cellsL, ren, renL, renEls, keepO, keepS, keysO, refsS, refsOB, cntN, headC, setS, boxO, row, putW, putB, putB1, eNl, newOs, frz, renO, noExtO, zps, zp, two32, w64, -getElem?_pos]
set_option maxHeartbeats 4000000 in
theorem endu39 (N d : Nat) (g : SL → OB → Option R) (ys t : List (List PV)) (n : Nat) : m28b0 (sem tab N d) N [] g (slu39 ys t.length n n) [(103, row t 1 true)] = some (.tup [.sl 0 0 0 t.length, .b true], [row t 1 true]) := by
  have t2 : List.take t.length t = t := List.take_length
  simp -implicitDefEqProofs (maxSteps := 1000000) (disch := first | omega | rfl) [m28b0, slu39, t2, KS, getS, getO, gS, zipN, dropW, takeW, wds, stvs, sea, seaL, refs, refsL, refsEls, refsO, isPureEls, isPures, isPure, noExt, noExts, noExtEls, cellsL, ren, renL, renEls, keepO, keepS, keysO, refsS, refsOB, cntN, headC, setS, boxO, row, putW, putB, putB1, eNl, newOs, frz, renO, noExtO, zps, zp, two32, w64, -getElem?_pos]
theorem loopu39 (N d : Nat) (l : List (Int × Nat)) (hl : l.length ≤ 40) (ho : ∀ x ∈ l, okNu x) : ∀ (k i e : Nat) (t : List (List PV)), i + k = l.length → t.length ≤ 8 * i →
    loopC (m28b0 (sem tab (N + 100) (d + 2)) (N + 100) []) (e + 1 + k) (slu39 (nuL l) t.length l.length i) [(103, row t 1 true)] = cond (fitAll (l.drop i)) (some (.tup [.sl 0 0 0 (t ++ byL (catB (l.drop i))).length, .b true], [row (t ++ byL (catB (l.drop i))) 1 true])) (some (.tup [.sl 0 0 0 0, .b false], [row [] 1 true])) := by
  intro k
  induction k with
  | zero =>
    intro i e t h ht
    have : i = l.length := by omega
    subst this
    rw [Nat.add_zero, k_loop, endu39, List.drop_length]
    simp [fitAll, catB, byL]
  | succ k ih =>
    intro i e t h ht
    have hi : i < l.length := by omega
    have q1 := List.drop_eq_getElem_cons hi
    have hx := ho _ (List.getElem_mem hi)
    rw [← Nat.add_assoc, k_loop, stepu39 N d _ (nuL l) t l.length i l[i] (nuL_get l i hi) hi hl hx (by omega), q1, fitAll, catB]
    cases q : fitsB l[i].1 l[i].2
    · rfl
    · rw [cond_true, ih (i + 1) e _ (by omega) (by rw [List.length_append, byL_len, be_len]; have := hx.2.1; omega), Bool.true_and]
      have e1 : t ++ byL (be l[i].2 l[i].1) ++ byL (catB (List.drop (i + 1) l)) = t ++ byL (be l[i].2 l[i].1 ++ catB (List.drop (i + 1) l)) := by simp [byL]
      rw [e1]
theorem U39c (N d : Nat) (l : List (Int × Nat)) (hl : l.length ≤ 40) (ho : ∀ x ∈ l, okNu x) : sem tab (N + 100) (d + 3) 28 [.l false (nuL l)] [] = cond (fitAll l) (some (.tup [.sl 0 0 0 (catB l).length, .b true], [row (byL (catB l)) 1 true])) (some (.tup [.sl 0 0 0 0, .b false], [row [] 1 true])) := by
  rw [sem_succ tab (N + 100) (d + 2) 28 m28 rfl]
  have h := loopu39 N d l hl ho l.length 0 (N + 99 - l.length) [] (by omega) (by simp)
  rw [show N + 99 - l.length + 1 + l.length = N + 100 by omega, k_loop, List.drop_zero, List.nil_append, byL_len] at h
  have hn := nuL_len l
  have c1 : ¬ ((l.length : Int) > 40) := by omega
  have c1' : ¬ (40 < (l.length : Int)) := by omega
  rw [← hn] at c1 c1' h
  simp only [slu39, row, List.length_nil] at h
  rw [show ((0 : Nat) : Int) = 0 from rfl] at h
  generalize nuL l = a at *
  generalize byL (catB l) = r at *
  generalize (catB l).length = q at *
  generalize fitAll l = z at *
  simp -implicitDefEqProofs (maxSteps := 1000000) (disch := first | omega | rfl) [m28, h, c1, c1', KS, getS, getO, gS, zipN, dropW, takeW, wds, stvs, sea, seaL, refs, refsL, refsEls, refsO, isPureEls, isPures, isPure, noExt, noExts, noExtEls, cellsL, ren, renL, renEls, keepO, keepS, keysO, refsS, refsOB, cntN, headC, setS, boxO, row, putW, putB, putB1, eNl, newOs, frz, renO, noExtO, zps, zp, two32, w64, -getElem?_pos]
def slu90 (ys : List (List PV)) (t : Nat) (i : Nat) : SL := [(0, .l false ys), (4, .sl 103 0 0 t), (5, .i .i64 i)]
set_option maxHeartbeats 8000000 in
theorem stepu90 (N d : Nat) (g : SL → OB → Option R) (ys : List (List PV)) (t : List (List PV)) (i : Nat) (x : Int × Nat) (hx : ys[i]? = some [.i .u64 x.1, .i .i64 x.2]) (hi : i < ys.length) (hn : ys.length ≤ 40) (ho : okNu x) (ht : t.length ≤ 100000) :
    m49b0 (sem tab (N + 100) (d + 2)) (N + 100) [] g (slu90 ys t.length i) [(103, row t 1 true)] = cond (fitsB x.1 x.2) (g (slu90 ys (t ++ byL (be x.2 x.1)).length (i + 1)) [(103, row (t ++ byL (be x.2 x.1)) 1 true)]) (some (.tup [.sl 0 0 0 0, .b false], [row [] 1 true])) := by
  obtain ⟨v, k⟩ := x
  obtain ⟨o1, o2, o3⟩ := ho
  have h98 := U145 N (d + 1) v k o1 o2 o3
  have hl := be_len k v
  have hl2 := byL_len (be k v)
  have fl := flat_by (be k v)
  have al := allW_by (be k v)
  rw [hl] at hl2
  simp only at hx h98 ⊢ o1 o2
  generalize byL (be k v) = b at *
  have w2 := w64n (i := i) (by omega)
  have ci : (i : Int) < ys.length := by omega
  have tt : List.take k b = b := List.take_of_length_le (by omega)
  have t2 : List.take t.length t = t := List.take_length
  have e0 : t.length + k ≤ 4294967296 := by omega
  have e1 : ¬ (t.length + k ≤ t.length) := by omega
  have e3 : (t ++ b).length = t.length + k := by simp [hl2]
  have e4 : List.take (t.length + k) (t ++ b) = t ++ b := List.take_of_length_le (by omega)
  have e5 : b.length ≤ 4294967296 := by omega
  cases q : fitsB v k
  · rw [q] at h98
    simp -implicitDefEqProofs (maxSteps := 1000000) (disch := first | omega | rfl) [m49b0, slu90, hx, h98, w2, ci, KS, getS, getO, gS, zipN, dropW, takeW, wds, stvs, sea, seaL, refs, refsL, refsEls, refsO, isPureEls, isPures, isPure, noExt, noExts, noExtEls, cellsL, ren, renL, renEls, keepO, keepS, keysO, refsS, refsOB, cntN, headC, setS, boxO, row, putW, putB, putB1, eNl, newOs, frz, renO, noExtO, zps, zp, two32, w64, -getElem?_pos]
  · rw [q] at h98
    simp -implicitDefEqProofs (maxSteps := 1000000) (disch := first | omega | rfl) [m49b0, slu90, hx, h98, w2, ci, tt, t2, e0, e1, e3, e4, e5, fl, al, hl2, KS, getS, getO, gS, zipN, dropW, takeW, wds, stvs, sea, seaL, refs, refsL, refsEls, refsO, isPureEls, isPures, isPure, noExt, noExts, noExtEls, cellsL, ren, renL, renEls, keepO, keepS, keysO, refsS, refsOB, cntN, headC, setS, boxO, row, putW, putB, putB1, eNl, newOs, frz, renO, noExtO, zps, zp, two32, w64, -getElem?_pos]
set_option maxHeartbeats 4000000 in
theorem endu90 (N d : Nat) (g : SL → OB → Option R) (ys t : List (List PV)) : m49b0 (sem tab N d) N [] g (slu90 ys t.length ys.length) [(103, row t 1 true)] = some (.tup [.sl 0 0 0 t.length, .b true], [row t 1 true]) := by
  have t2 : List.take t.length t = t := List.take_length
  simp -implicitDefEqProofs (maxSteps := 1000000) (disch := first | omega | rfl) [m49b0, slu90, t2, KS, getS, getO, gS, zipN, dropW, takeW, wds, stvs, sea, seaL, refs, refsL, refsEls, refsO, isPureEls, isPures, isPure, noExt, noExts, noExtEls, cellsL, ren, renL, renEls, keepO, keepS, keysO, refsS, refsOB, cntN, headC, setS, boxO, row, putW, putB, putB1, eNl, newOs, frz, renO, noExtO, zps, zp, two32, w64, -getElem?_pos]
theorem loopu90 (N d : Nat) (l : List (Int × Nat)) (hl : l.length ≤ 40) (ho : ∀ x ∈ l, okNu x) : ∀ (k i e : Nat) (t : List (List PV)), i + k = l.length → t.length ≤ 8 * i →
    loopC (m49b0 (sem tab (N + 100) (d + 2)) (N + 100) []) (e + 1 + k) (slu90 (nuL l) t.length i) [(103, row t 1 true)] = cond (fitAll (l.drop i)) (some (.tup [.sl 0 0 0 (t ++ byL (catB (l.drop i))).length, .b true], [row (t ++ byL (catB (l.drop i))) 1 true])) (some (.tup [.sl 0 0 0 0, .b false], [row [] 1 true])) := by
  intro k
  have hn := nuL_len l
  induction k with
  | zero =>
    intro i e t h ht
    have : i = l.length := by omega
    subst this
    have h2 := endu90 (N + 100) (d + 2) (loopC (m49b0 (sem tab (N + 100) (d + 2)) (N + 100) []) e) (nuL l) t
    rw [hn] at h2
    rw [Nat.add_zero, k_loop, h2, List.drop_length]
    simp [fitAll, catB, byL]
  | succ k ih =>
    intro i e t h ht
    have hi : i < l.length := by omega
    have q1 := List.drop_eq_getElem_cons hi
    have hx := ho _ (List.getElem_mem hi)
    rw [← Nat.add_assoc, k_loop, stepu90 N d _ (nuL l) t i l[i] (nuL_get l i hi) (by omega) (by omega) hx (by omega), q1, fitAll, catB]
    cases q : fitsB l[i].1 l[i].2
    · rfl
    · rw [cond_true, ih (i + 1) e _ (by omega) (by rw [List.length_append, byL_len, be_len]; have := hx.2.1; omega), Bool.true_and]
      have e1 : t ++ byL (be l[i].2 l[i].1) ++ byL (catB (List.drop (i + 1) l)) = t ++ byL (be l[i].2 l[i].1 ++ catB (List.drop (i + 1) l)) := by simp [byL]
      rw [e1]
theorem U90c (N d : Nat) (l : List (Int × Nat)) (hl : l.length ≤ 40) (ho : ∀ x ∈ l, okNu x) : sem tab (N + 100) (d + 3) 49 [.l false (nuL l)] [] = cond (fitAll l) (some (.tup [.sl 0 0 0 (catB l).length, .b true], [row (byL (catB l)) 1 true])) (some (.tup [.sl 0 0 0 0, .b false], [row [] 1 true])) := by
  rw [sem_succ tab (N + 100) (d + 2) 49 m49 rfl]
  have h := loopu90 N d l hl ho l.length 0 (N + 99 - l.length) [] (by omega) (by simp)
  rw [show N + 99 - l.length + 1 + l.length = N + 100 by omega, k_loop, List.drop_zero, List.nil_append, byL_len] at h
  have hn := nuL_len l
  have c1 : ¬ ((l.length : Int) > 40) := by omega
  have c1' : ¬ (40 < (l.length : Int)) := by omega
  rw [← hn] at c1 c1'
  simp only [slu90, row, List.length_nil] at h
  rw [show ((0 : Nat) : Int) = 0 from rfl] at h
  generalize nuL l = a at *
  generalize byL (catB l) = r at *
  generalize (catB l).length = q at *
  generalize fitAll l = z at *
  simp -implicitDefEqProofs (maxSteps := 1000000) (disch := first | omega | rfl) [m49, h, c1, c1', KS, getS, getO, gS, zipN, dropW, takeW, wds, stvs, sea, seaL, refs, refsL, refsEls, refsO, isPureEls, isPures, isPure, noExt, noExts, noExtEls, cellsL, ren, renL, renEls, keepO, keepS, keysO, refsS, refsOB, cntN, headC, setS, boxO, row, putW, putB, putB1, eNl, newOs, frz, renO, noExtO, zps, zp, two32, w64, -getElem?_pos]
end
/-! ## PureUf -/
section
def sesS : List UInt8 := [115, 101, 115, 115, 105, 111, 110]
def sesN (u : Us) (e dr cn : Int) : List (Int × Nat) := [(e, 4), (dr, 8), (cn, 8), (u.1, 1)]
def secB (u : Us) (e : Int) : Bool := okU 0 u && inB e 0 1073741824
noncomputable def secI (u : Us) (e dr cn : Int) : List Int := if secB u e = true then derI u.2.2 sesS (catB (sesN u e dr cn)) else List.replicate 32 0
theorem secI_len (u : Us) (e dr cn : Int) : (secI u e dr cn).length = 32 := by
  unfold secI
  split
  · exact derI_len _ _ _
  · simp
def u64B (n : Int) : Prop := 0 ≤ n ∧ n ≤ 18446744073709551615
theorem may1 (u : Us) : mayU [u] = okU 0 u := by simp [mayU, mayFrom]
theorem ses_ok {u : Us} {e dr cn : Int} (h : secB u e = true) (hd : u64B dr) (hc : u64B cn) : (∀ x ∈ sesN u e dr cn, okNu x) ∧ fitAll (sesN u e dr cn) = true ∧ (catB (sesN u e dr cn)).length = 21 ∧ (0 ≤ e ∧ e ≤ 1073741824) ∧ (1 ≤ u.1 ∧ u.1 ≤ 255) := by
  obtain ⟨no, r, ks⟩ := u
  simp only [secB, okU, inB, Bool.and_eq_true, decide_eq_true_eq] at h
  obtain ⟨hd1, hd2⟩ := hd
  obtain ⟨hc1, hc2⟩ := hc
  refine ⟨?_, ?_, ?_, by omega, by simp only; omega⟩
  · intro x hx
    simp only [sesN, List.mem_cons, List.not_mem_nil, or_false] at hx
    rcases hx with rfl | rfl | rfl | rfl <;> simp only [okNu] <;> omega
  · have f1 : fitsB e 4 = true := by
      have : e / 4294967296 = 0 := Int.ediv_eq_zero_of_lt (by omega) (by omega)
      simp [fitsB, this]
    have f2 : fitsB no 1 = true := by
      have : no / 256 = 0 := Int.ediv_eq_zero_of_lt (by omega) (by omega)
      simp [fitsB, this]
    have f3 : ∀ v, fitsB v 8 = true := fun v => by simp [fitsB]
    simp [sesN, fitAll, f1, f2, f3]
  · simp [sesN, catB, be_len]
theorem uL_zero : uL (List.replicate 32 0) = List.replicate 32 (PV.i .u8 0) := by simp [uL]
set_option maxHeartbeats 8000000 in
/-- A session's key. -/
theorem U28 (M d : Nat) (u : Us) (e dr cn : Int) (hk : u.2.2.length ≤ 57600) (hd : u64B dr) (hc : u64B cn) : sem tab (M + 1000) (d + 11) 17 [.agg (uC u), .i .i64 e, .i .u64 dr, .i .u64 cn] [] = some (.tup [.agg [.blob 32 (uL (secI u e dr cn))], .b (secB u e)], []) := by
  rw [sem_succ tab (M + 1000) (d + 10) 17 m17 rfl]
  have h32 : sem tab (M + 1000) (d + 10) 21 [.l false [uC u]] [] = _ := U32 M (d + 8) [u] (by simp)
  rw [may1] at h32
  have h89 := U89 (M + 1000) (d + 9) e 0 1073741824
  cases hs : secB u e
  · have hI : secI u e dr cn = List.replicate 32 0 := by unfold secI; rw [hs]; simp
    rw [hI, uL_zero]
    obtain ⟨no, r, ks⟩ := u
    simp only [uC] at h32 ⊢
    generalize byL ks = b at *
    generalize hz : List.replicate 32 (PV.i IntKind.u8 0) = zz at *
    simp only [secB] at hs
    cases g1 : okU 0 (no, r, ks)
    · rw [g1] at h32
      simp -implicitDefEqProofs (maxSteps := 1000000) (disch := first | omega | rfl) [m17, hz, h32, KS, getS, getO, gS, zipN, dropW, takeW, wds, stvs, sea, seaL, refs, refsL, refsEls, refsO, isPureEls, isPures, isPure, noExt, noExts, noExtEls, cellsL, ren, renL, renEls, keepO, keepS, keysO, refsS, refsOB, cntN, headC, setS, boxO, row, putW, putB, putB1, eNl, newOs, frz, renO, noExtO, zps, zp, two32, w64, -getElem?_pos]
    · rw [g1] at h32 hs
      rw [Bool.true_and] at hs
      rw [hs] at h89
      simp -implicitDefEqProofs (maxSteps := 1000000) (disch := first | omega | rfl) [m17, hz, h32, h89, KS, getS, getO, gS, zipN, dropW, takeW, wds, stvs, sea, seaL, refs, refsL, refsEls, refsO, isPureEls, isPures, isPure, noExt, noExts, noExtEls, cellsL, ren, renL, renEls, keepO, keepS, keysO, refsS, refsOB, cntN, headC, setS, boxO, row, putW, putB, putB1, eNl, newOs, frz, renO, noExtO, zps, zp, two32, w64, -getElem?_pos]
  · have hI : secI u e dr cn = derI u.2.2 sesS (catB (sesN u e dr cn)) := by unfold secI; rw [hs]; simp
    rw [hI]
    obtain ⟨s1, s2, s3, s4, s5⟩ := ses_ok hs hd hc
    have h39 := U39c (M + 900) (d + 7) (sesN u e dr cn) (by simp [sesN]) s1
    rw [s2, cond_true, s3, show M + 900 + 100 = M + 1000 by omega] at h39
    have h33 := L33 M d u.2.2 (catB (sesN u e dr cn)) sesS hk (by omega)
    rw [show decide (1 ≤ sesS.length ∧ sesS.length ≤ 32) = true by decide] at h33
    have hcl := byL_len (catB (sesN u e dr cn))
    rw [s3] at hcl
    generalize uL (derI u.2.2 sesS (catB (sesN u e dr cn))) = T at *
    generalize byL (catB (sesN u e dr cn)) = c at *
    obtain ⟨no, r, ks⟩ := u
    simp only at s5
    simp only [secB, Bool.and_eq_true] at hs
    rw [hs.1] at h32
    rw [hs.2] at h89
    have h39' : sem tab (M + 1000) (d + 10) 28 [.l false [[.i .u64 e, .i .i64 4], [.i .u64 dr, .i .i64 8], [.i .u64 cn, .i .i64 8], [.i .u64 no, .i .i64 1]]] [] = some (.tup [.sl 0 0 0 21, .b true], [row c 1 true]) := h39
    simp only [uC, sesS] at h32 h33 ⊢
    generalize byL ks = b at *
    generalize hz : List.replicate 32 (PV.i IntKind.u8 0) = zz at *
    have w1 : IntKind.u64.wrap e = e := by rw [IntKind.wrap_u64]; omega
    have w2 : IntKind.u64.wrap no = no := by rw [IntKind.wrap_u64]; omega
    have tk : List.take 21 c = c := List.take_of_length_le (by omega)
    clear h39 s1 s2 s3
    simp -implicitDefEqProofs (maxSteps := 1000000) (disch := first | omega | rfl) [m17, hz, h32, h89, h39', h33, w1, w2, tk, hcl, KS, getS, getO, gS, zipN, dropW, takeW, wds, stvs, sea, seaL, refs, refsL, refsEls, refsO, isPureEls, isPures, isPure, noExt, noExts, noExtEls, cellsL, ren, renL, renEls, keepO, keepS, keysO, refsS, refsOB, cntN, headC, setS, boxO, row, putW, putB, putB1, eNl, newOs, frz, renO, noExtO, zps, zp, two32, w64, -getElem?_pos]
end
/-! ## PureUg -/
section
/-- Few users, with short keys? -/
def fewU (l : List Us) : Bool := decide (l.length ≤ 10) && l.all fun u => decide (u.2.2.length ≤ 100)
def slu27 (xs : List (List PV)) (i : Nat) : SL := [(0, .l false xs), (3, .i .i64 i)]
set_option maxHeartbeats 4000000 in
theorem stepu27 (N d : Nat) (g : SL → OB → Option R) (xs : List (List PV)) (i : Nat) (u : Us) (hx : xs[i]? = some (uC u)) (hi : i < xs.length) (hn : i ≤ 10) :
    m16b0 (sem tab N d) N [] g (slu27 xs i) [] = cond (decide (u.2.2.length ≤ 100)) (g (slu27 xs (i + 1)) []) (some (.b false, [])) := by
  obtain ⟨no, r, ks⟩ := u
  have w2 := w64n (i := i) (by omega)
  have ci : (i : Int) < xs.length := by omega
  have cj : (i : Int) ≤ 10 := by omega
  have hl := byL_len ks
  simp only [uC] at hx ⊢
  rw [← hl]
  generalize byL ks = b at *
  by_cases c : b.length ≤ 100
  · have c1 : ¬ ((b.length : Int) > 100) := by omega
    have c1' : ¬ (100 < (b.length : Int)) := by omega
    simp -implicitDefEqProofs (maxSteps := 1000000) (disch := first | omega | rfl) [m16b0, slu27, hx, w2, ci, cj, c, c1, c1', KS, getS, getO, gS, zipN, dropW, takeW, wds, stvs, sea, seaL, refs, refsL, refsEls, refsO, isPureEls, isPures, isPure, noExt, noExts, noExtEls, cellsL, ren, renL, renEls, keepO, keepS, keysO, refsS, refsOB, cntN, headC, setS, boxO, row, putW, putB, putB1, eNl, newOs, frz, renO, noExtO, zps, zp, two32, w64, -getElem?_pos]
  · have c1 : (b.length : Int) > 100 := by omega
    have c1' : 100 < (b.length : Int) := by omega
    simp -implicitDefEqProofs (maxSteps := 1000000) (disch := first | omega | rfl) [m16b0, slu27, hx, w2, ci, cj, c, c1, c1', KS, getS, getO, gS, zipN, dropW, takeW, wds, stvs, sea, seaL, refs, refsL, refsEls, refsO, isPureEls, isPures, isPure, noExt, noExts, noExtEls, cellsL, ren, renL, renEls, keepO, keepS, keysO, refsS, refsOB, cntN, headC, setS, boxO, row, putW, putB, putB1, eNl, newOs, frz, renO, noExtO, zps, zp, two32, w64, -getElem?_pos]
set_option maxHeartbeats 4000000 in
theorem endu27 (N d : Nat) (g : SL → OB → Option R) (xs : List (List PV)) (h : xs.length ≤ 10) : m16b0 (sem tab N d) N [] g (slu27 xs xs.length) [] = some (.b true, []) := by
  have e : (xs.length : Int) ≤ 10 := by omega
  simp -implicitDefEqProofs (maxSteps := 1000000) (disch := first | omega | rfl) [m16b0, slu27, e, KS, getS, getO, gS, zipN, dropW, takeW, wds, stvs, sea, seaL, refs, refsL, refsEls, refsO, isPureEls, isPures, isPure, noExt, noExts, noExtEls, cellsL, ren, renL, renEls, keepO, keepS, keysO, refsS, refsOB, cntN, headC, setS, boxO, row, putW, putB, putB1, eNl, newOs, frz, renO, noExtO, zps, zp, two32, w64, -getElem?_pos]
set_option maxHeartbeats 4000000 in
theorem endu27b (N d : Nat) (g : SL → OB → Option R) (xs : List (List PV)) (h : 11 < xs.length) : m16b0 (sem tab N d) N [] g (slu27 xs 11) [] = some (.b false, []) := by
  have e : ¬ (xs.length : Int) ≤ 10 := by omega
  have e2 : (11 : Int) < xs.length := by omega
  simp -implicitDefEqProofs (maxSteps := 1000000) (disch := first | omega | rfl) [m16b0, slu27, e, e2, KS, getS, getO, gS, zipN, dropW, takeW, wds, stvs, sea, seaL, refs, refsL, refsEls, refsO, isPureEls, isPures, isPure, noExt, noExts, noExtEls, cellsL, ren, renL, renEls, keepO, keepS, keysO, refsS, refsOB, cntN, headC, setS, boxO, row, putW, putB, putB1, eNl, newOs, frz, renO, noExtO, zps, zp, two32, w64, -getElem?_pos]
set_option maxHeartbeats 4000000 in
theorem endu27c (N d : Nat) (g : SL → OB → Option R) (xs : List (List PV)) (h : xs.length = 11) : m16b0 (sem tab N d) N [] g (slu27 xs 11) [] = some (.b false, []) := by
  simp -implicitDefEqProofs (maxSteps := 1000000) (disch := first | omega | rfl) [m16b0, slu27, h, KS, getS, getO, gS, zipN, dropW, takeW, wds, stvs, sea, seaL, refs, refsL, refsEls, refsO, isPureEls, isPures, isPure, noExt, noExts, noExtEls, cellsL, ren, renL, renEls, keepO, keepS, keysO, refsS, refsOB, cntN, headC, setS, boxO, row, putW, putB, putB1, eNl, newOs, frz, renO, noExtO, zps, zp, two32, w64, -getElem?_pos]
theorem loopu27 (N d : Nat) (l : List Us) : ∀ (k i e : Nat), i + k = min l.length 11 →
    loopC (m16b0 (sem tab N d) N []) (e + 1 + k) (slu27 (usL l) i) [] = some (.b (decide (l.length ≤ 10) && ((l.take 11).drop i).all fun u => decide (u.2.2.length ≤ 100)), []) := by
  intro k
  have hn := usL_len l
  induction k with
  | zero =>
    intro i e h
    rw [Nat.add_zero, k_loop]
    have hd : ((l.take 11).drop i) = [] := List.drop_of_length_le (by simp; omega)
    rw [hd]
    rcases Nat.lt_trichotomy l.length 11 with c | c | c
    · obtain rfl : i = (usL l).length := by omega
      rw [endu27 _ _ _ _ (by omega)]
      simp; omega
    · obtain rfl : i = 11 := by omega
      rw [endu27c _ _ _ _ (by omega)]
      simp; omega
    · obtain rfl : i = 11 := by omega
      rw [endu27b _ _ _ _ (by omega)]
      simp; omega
  | succ k ih =>
    intro i e h
    have hi : i < l.length := by omega
    have hi2 : i < (l.take 11).length := by simp; omega
    have q1 := List.drop_eq_getElem_cons hi2
    rw [← Nat.add_assoc, k_loop, stepu27 N d _ (usL l) i l[i] (usL_get l i hi) (by omega) (by omega), q1, List.all_cons, List.getElem_take]
    by_cases c : l[i].2.2.length ≤ 100
    · rw [decide_eq_true c, cond_true, ih (i + 1) e (by omega), Bool.true_and]
    · rw [decide_eq_false c]
      simp
theorem few_take (l : List Us) : (decide (l.length ≤ 10) && (l.take 11).all fun u => decide (u.2.2.length ≤ 100)) = fewU l := by
  unfold fewU
  by_cases h : l.length ≤ 10
  · rw [List.take_of_length_le (by omega)]
  · rw [decide_eq_false h]; simp
theorem U27 (N d : Nat) (l : List Us) : sem tab (N + 1000) (d + 1) 16 [.l false (usL l)] [] = some (.b (fewU l), []) := by
  rw [sem_succ tab (N + 1000) d 16 m16 rfl]
  have h := loopu27 (N + 1000) d l (min l.length 11) 0 (N + 999 - min l.length 11) (by omega)
  rw [show N + 999 - min l.length 11 + 1 + min l.length 11 = N + 1000 by omega, k_loop, List.drop_zero, few_take] at h
  simp only [slu27] at h
  rw [show ((0 : Nat) : Int) = 0 from rfl] at h
  generalize usL l = a at *
  generalize fewU l = q at *
  simp -implicitDefEqProofs (maxSteps := 1000000) (disch := first | omega | rfl) [m16, h, KS, getS, getO, gS, zipN, dropW, takeW, wds, stvs, sea, seaL, refs, refsL, refsEls, refsO, isPureEls, isPures, isPure, noExt, noExts, noExtEls, cellsL, ren, renL, renEls, keepO, keepS, keysO, refsS, refsOB, cntN, headC, setS, boxO, row, putW, putB, putB1, eNl, newOs, frz, renO, noExtO, zps, zp, two32, w64, -getElem?_pos]
theorem few_spec {l : List Us} (h : fewU l = true) : l.length ≤ 10 ∧ ∀ u ∈ l, u.2.2.length ≤ 100 := by
  simpa [fewU] using h
theorem awakeU : sem tab 2000 12 15 [] [] = some (.b true, []) := by kernel_rfl
def okKeys (l : List Us) : Prop := ∀ u ∈ l, ∀ n ∈ u.2.2, 0 ≤ n ∧ n ≤ 255
theorem chars_inj : ∀ (xs ys : List Int), (∀ n ∈ xs, 0 ≤ n ∧ n ≤ 255) → (∀ n ∈ ys, 0 ≤ n ∧ n ≤ 255) → (chars xs = chars ys ↔ xs = ys)
  | [], [], _, _ => by simp
  | [], y :: s, _, _ => by simp [chars]
  | x :: r, [], _, _ => by simp [chars]
  | x :: r, y :: s, hx, hy => by
    have ih := chars_inj r s (fun n h => hx n (List.mem_cons_of_mem _ h)) (fun n h => hy n (List.mem_cons_of_mem _ h))
    have h1 := hx x (List.mem_cons_self ..)
    have h2 := hy y (List.mem_cons_self ..)
    simp only [chars] at ih
    simp only [chars, List.map_cons, List.cons.injEq, ih]
    constructor
    · rintro ⟨h, rfl⟩
      refine ⟨?_, rfl⟩
      have := congrArg UInt8.toNat h
      simp at this
      omega
    · rintro ⟨rfl, rfl⟩
      exact ⟨rfl, rfl⟩
def slu31 (a b : List (List PV)) (i : Nat) : SL := [(0, .l false a), (1, .l false b), (5, .i .i64 i)]
set_option maxHeartbeats 8000000 in
theorem stepu31 (N d : Nat) (g : SL → OB → Option R) (a b : List (List PV)) (i : Nat) (u v : Us) (hx : a[i]? = some (uC u)) (hy : b[i]? = some (uC v)) (hi : i < a.length) (he : a.length = b.length) (hn : a.length < 1000000) (hu : ∀ n ∈ u.2.2, 0 ≤ n ∧ n ≤ 255) (hv : ∀ n ∈ v.2.2, 0 ≤ n ∧ n ≤ 255) :
    m20b0 (sem tab N d) N [] g (slu31 a b i) [] = cond (decide (u = v)) (g (slu31 a b (i + 1)) []) (some (.b false, [])) := by
  obtain ⟨un, ur, uk⟩ := u
  obtain ⟨vn, vr, vk⟩ := v
  have hci : decide (chars uk = chars vk) = decide (uk = vk) := by
    rw [Bool.eq_iff_iff]; simp only [decide_eq_true_eq]; exact chars_inj uk vk hu hv
  have bu := unB_by uk
  have bv := unB_by vk
  have w2 := w64n (i := i) (by omega)
  have ci : (i : Int) < a.length := by omega
  have cj : (i : Int) < b.length := by omega
  simp only [uC, Prod.mk.injEq] at hx hy ⊢
  generalize byL uk = x at *
  generalize byL vk = y at *
  generalize chars uk = s at *
  generalize chars vk = t at *
  by_cases e1 : un = vn
  · by_cases e2 : ur = vr
    · subst e1; subst e2
      simp only [true_and]
      rw [← hci]
      by_cases e3 : s = t
      · subst e3
        simp -implicitDefEqProofs (maxSteps := 1000000) (disch := first | omega | rfl) [m20b0, slu31, hx, hy, bu, bv, w2, ci, cj, KS, getS, getO, gS, zipN, dropW, takeW, wds, stvs, sea, seaL, refs, refsL, refsEls, refsO, isPureEls, isPures, isPure, noExt, noExts, noExtEls, cellsL, ren, renL, renEls, keepO, keepS, keysO, refsS, refsOB, cntN, headC, setS, boxO, row, putW, putB, putB1, eNl, newOs, frz, renO, noExtO, zps, zp, two32, w64, -getElem?_pos]
      · simp -implicitDefEqProofs (maxSteps := 1000000) (disch := first | omega | rfl) [m20b0, slu31, hx, hy, bu, bv, w2, ci, cj, e3, KS, getS, getO, gS, zipN, dropW, takeW, wds, stvs, sea, seaL, refs, refsL, refsEls, refsO, isPureEls, isPures, isPure, noExt, noExts, noExtEls, cellsL, ren, renL, renEls, keepO, keepS, keysO, refsS, refsOB, cntN, headC, setS, boxO, row, putW, putB, putB1, eNl, newOs, frz, renO, noExtO, zps, zp, two32, w64, -getElem?_pos]
    · have e2' : (ur != vr) = true := by simpa using e2
      simp -implicitDefEqProofs (maxSteps := 1000000) (disch := first | omega | rfl) [m20b0, slu31, hx, hy, bu, bv, w2, ci, cj, e1, e2, e2', KS, getS, getO, gS, zipN, dropW, takeW, wds, stvs, sea, seaL, refs, refsL, refsEls, refsO, isPureEls, isPures, isPure, noExt, noExts, noExtEls, cellsL, ren, renL, renEls, keepO, keepS, keysO, refsS, refsOB, cntN, headC, setS, boxO, row, putW, putB, putB1, eNl, newOs, frz, renO, noExtO, zps, zp, two32, w64, -getElem?_pos]
  · have e1' : (un != vn) = true := by simpa using e1
    simp -implicitDefEqProofs (maxSteps := 1000000) (disch := first | omega | rfl) [m20b0, slu31, hx, hy, bu, bv, w2, ci, cj, e1, e1', KS, getS, getO, gS, zipN, dropW, takeW, wds, stvs, sea, seaL, refs, refsL, refsEls, refsO, isPureEls, isPures, isPure, noExt, noExts, noExtEls, cellsL, ren, renL, renEls, keepO, keepS, keysO, refsS, refsOB, cntN, headC, setS, boxO, row, putW, putB, putB1, eNl, newOs, frz, renO, noExtO, zps, zp, two32, w64, -getElem?_pos]
set_option maxHeartbeats 4000000 in
theorem endu31 (N d : Nat) (g : SL → OB → Option R) (a b : List (List PV)) : m20b0 (sem tab N d) N [] g (slu31 a b a.length) [] = some (.b true, []) := by
  simp -implicitDefEqProofs (maxSteps := 1000000) (disch := first | omega | rfl) [m20b0, slu31, KS, getS, getO, gS, zipN, dropW, takeW, wds, stvs, sea, seaL, refs, refsL, refsEls, refsO, isPureEls, isPures, isPure, noExt, noExts, noExtEls, cellsL, ren, renL, renEls, keepO, keepS, keysO, refsS, refsOB, cntN, headC, setS, boxO, row, putW, putB, putB1, eNl, newOs, frz, renO, noExtO, zps, zp, two32, w64, -getElem?_pos]
theorem loopu31 (N d : Nat) (l m : List Us) (he : l.length = m.length) (hl : l.length < 1000000) (h1 : okKeys l) (h2 : okKeys m) : ∀ (k i e : Nat), i + k = l.length →
    loopC (m20b0 (sem tab N d) N []) (e + 1 + k) (slu31 (usL l) (usL m) i) [] = some (.b (decide (l.drop i = m.drop i)), []) := by
  intro k
  have hn := usL_len l
  have hm := usL_len m
  induction k with
  | zero =>
    intro i e h
    obtain rfl : i = (usL l).length := by omega
    rw [Nat.add_zero, k_loop, endu31, hn, List.drop_length, he, List.drop_length]; rfl
  | succ k ih =>
    intro i e h
    have hi : i < l.length := by omega
    have hi' : i < m.length := by omega
    have q1 := List.drop_eq_getElem_cons hi
    have q2 := List.drop_eq_getElem_cons hi'
    rw [← Nat.add_assoc, k_loop, stepu31 N d _ (usL l) (usL m) i _ _ (usL_get l i hi) (usL_get m i hi') (by omega) (by omega) (by omega) (h1 _ (List.getElem_mem hi)) (h2 _ (List.getElem_mem hi')), q1, q2]
    by_cases ho : l[i] = m[i]
    · rw [dec_cons, decide_eq_true ho, cond_true, ih (i + 1) e (by omega), Bool.true_and]
    · rw [dec_cons, decide_eq_false ho, cond_false, Bool.false_and]
theorem U31 (N d : Nat) (l m : List Us) (hl : l.length < 900) (h1 : okKeys l) (h2 : okKeys m) : sem tab (N + 1000) (d + 1) 20 [.l false (usL l), .l false (usL m)] [] = some (.b (decide (l = m)), []) := by
  rw [sem_succ tab (N + 1000) d 20 m20 rfl]
  have hx := usL_len l
  have hy := usL_len m
  by_cases he : l.length = m.length
  · have h := loopu31 (N + 1000) d l m he (by omega) h1 h2 l.length 0 (N + 999 - l.length) (by omega)
    rw [show N + 999 - l.length + 1 + l.length = N + 1000 by omega, k_loop] at h
    simp only [slu31, List.drop_zero] at h
    rw [show ((0 : Nat) : Int) = 0 from rfl] at h
    generalize decide (l = m) = q at *
    rw [← hx, ← hy] at he
    generalize usL l = a at *
    generalize usL m = b at *
    have e1 : (((a.length : Nat) : Int) != ((b.length : Nat) : Int)) = false := by simp [he]
    simp -implicitDefEqProofs (maxSteps := 1000000) (disch := first | omega | rfl) [m20, h, e1, KS, getS, getO, gS, zipN, dropW, takeW, wds, stvs, sea, seaL, refs, refsL, refsEls, refsO, isPureEls, isPures, isPure, noExt, noExts, noExtEls, cellsL, ren, renL, renEls, keepO, keepS, keysO, refsS, refsOB, cntN, headC, setS, boxO, row, putW, putB, putB1, eNl, newOs, frz, renO, noExtO, zps, zp, two32, w64, -getElem?_pos]
  · have hd : decide (l = m) = false := decide_eq_false (fun e => he (by rw [e]))
    rw [hd]
    rw [← hx, ← hy] at he
    generalize usL l = a at *
    generalize usL m = b at *
    have e1 : (((a.length : Nat) : Int) != ((b.length : Nat) : Int)) = true := by simp; omega
    simp -implicitDefEqProofs (maxSteps := 1000000) (disch := first | omega | rfl) [m20, e1, KS, getS, getO, gS, zipN, dropW, takeW, wds, stvs, sea, seaL, refs, refsL, refsEls, refsO, isPureEls, isPures, isPure, noExt, noExts, noExtEls, cellsL, ren, renL, renEls, keepO, keepS, keysO, refsS, refsOB, cntN, headC, setS, boxO, row, putW, putB, putB1, eNl, newOs, frz, renO, noExtO, zps, zp, two32, w64, -getElem?_pos]
end
end Go.Proofs.YtcimkkcajkmfoaaDoor
