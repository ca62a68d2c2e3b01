/- Plain lemmas, part 3. -/
import Derived.Test.YtmhpkdcnhgmblaaDoorPgB
set_option linter.all false
set_option linter.unusedSimpArgs false
set_option linter.unusedVariables false
namespace Go.Proofs.YtmhpkdcnhgmblaaDoor
open Go
section
/-- A log: its store, its entries, the head of their chain. -/
abbrev Lo := So × List En × List Int
def loC (g : Bool) (l : Lo) : List PV := [.i .i64 l.1.1, .l g (byL l.1.2.1), .i .i64 l.1.2.2, .l g (enL l.2.1), .blob 32 (uL l.2.2)]
theorem L39e (N d : Nat) (l : List En) (h : l.length ≤ 4294967296) : sem tab N (d + 1) 59 [.l false (enL l)] [] = some (.sl 0 0 0 l.length, [row (enL l) 9 true]) := by
  rw [sem_succ tab N d 59 m59 rfl]
  cases l with
  | nil => simp -implicitDefEqProofs (disch := first | omega | rfl) [m59, enL, allW, flatEls, eqV, eqOs, eqO, eqEls, KS, getS, getO, gS, zipN, dropW, takeW, wds, stvs, sea, seaL, refs, refsL, refsEls, refsO, isPureEls, isPures, isPure, noExt, noExts, noExtEls, cellsL, ren, renL, renEls, keepO, keepS, keysO, refsS, refsOB, cntN, headC, setS, boxO, row, putW, putB, putB1, eNl, newOs, frz, renO, noExtO, zps, zp, two32, w64, -getElem?_pos]
  | cons x r =>
    have hf := flat_en (x :: r)
    have hw := allW_en (x :: r)
    have hl := enL_len (x :: r)
    generalize hb : enL (x :: r) = b at hf hw hl
    have hne : ∃ y s, b = y :: s := by rw [← hb]; exact ⟨_, _, rfl⟩
    obtain ⟨y, s, rfl⟩ := hne
    have hl2 : r.length = s.length := by simp at hl; omega
    have hle : s.length ≤ 4294967295 := by simp at h; omega
    simp -implicitDefEqProofs (disch := first | omega | rfl) [m59, hw, hf, hle, hl2, KS, getS, getO, gS, zipN, dropW, takeW, wds, stvs, sea, seaL, refs, refsL, refsEls, refsO, isPureEls, isPures, isPure, noExt, noExts, noExtEls, cellsL, ren, renL, renEls, keepO, keepS, keysO, refsS, refsOB, cntN, headC, setS, boxO, row, putW, putB, putB1, eNl, newOs, frz, renO, noExtO, zps, zp, two32, w64, -getElem?_pos]
set_option maxHeartbeats 4000000 in
theorem V30o (N d : Nat) (l : Lo) (h : l.1.2.1.length ≤ 50000) (h2 : l.2.1.length ≤ 50000) : sem tab N (d + 2) 30 [.agg (loC false l)] [] = some (.agg [.i .i64 l.1.1, .sl 0 0 0 l.1.2.1.length, .i .i64 l.1.2.2, .sl 1 0 0 l.2.1.length, .blob 32 (uL l.2.2)], [row (byL l.1.2.1) 1 true, row (enL l.2.1) 9 true]) := by
  rw [sem_succ tab N (d + 1) 30 m30 rfl]
  obtain ⟨⟨c, D, u⟩, L, H⟩ := l
  simp only at h h2
  have h39 := L39 N d D (by omega)
  have h39e := L39e N d L (by omega)
  have bl := byL_len D
  have el := enL_len L
  have tk : List.take D.length (byL D) = byL D := List.take_of_length_le (by omega)
  have tke : List.take L.length (enL L) = enL L := List.take_of_length_le (by omega)
  simp only [loC]
  rw [← bl] at h39 tk
  rw [← el] at h39e tke
  rw [← bl, ← el]
  generalize byL D = b at *
  generalize enL L = a at *
  generalize uL H = q at *
  generalize hz' : List.replicate 32 (PV.i .u8 0) = zz at *
  simp only [row] at h39 h39e
  simp -implicitDefEqProofs (maxSteps := 1000000) (disch := first | omega | rfl) [m30, h39, h39e, tk, tke, hz', finG, reach, getOs, idx, one, box, KS, getS, getO, gS, zipN, dropW, takeW, wds, stvs, sea, seaL, refs, refsL, refsEls, refsO, isPureEls, isPures, isPure, noExt, noExts, noExtEls, cellsL, ren, renL, renEls, keepO, keepS, keysO, refsS, refsOB, cntN, headC, setS, boxO, row, putW, putB, putB1, eNl, newOs, frz, renO, noExtO, zps, zp, two32, w64, -getElem?_pos]
/-- May a log be? -/
noncomputable def mayG (l : Lo) : Bool := l.2.1.all mayE && (mayS l.1 && (l.1.2.2 == (l.1.2.1.length : Int) && (decide (chars (recL h0 l.2.1) = chars l.1.2.1) && decide (hdL h0 l.2.1 = l.2.2))))
theorem eqIs_dec (a b : List Int) (h : a.length = b.length) : eqIs (uL a) (uL b) = some (decide (a = b)) := by
  have key : ∀ (a b : List Int), a.length = b.length → eqIs (uL a) (uL b) = some (decide (a = b)) := by
    intro a
    induction a with
    | nil => intro b h; cases b with | nil => rfl | cons y s => simp at h
    | cons x r ih =>
      intro b h
      cases b with
      | nil => simp at h
      | cons y s =>
        have := ih s (by simpa using h)
        simp only [uL, List.map_cons, eqIs, eqI, if_true] at this ⊢
        rw [this]
        simp only
        congr 1
        rw [Bool.eq_iff_iff]
        simp
  exact key a b h
set_option maxHeartbeats 8000000 in
theorem V22g (M d : Nat) (l : Lo) (hl : l.2.1.length ≤ 264) (ho : ∀ e ∈ l.2.1, okE e) (hh : l.2.2.length = 32) : sem tab (M + 1000) (d + 10) 22 [.agg (loC false l)] [] = some (.b (mayG l), []) := by
  rw [sem_succ tab (M + 1000) (d + 9) 22 m22 rfl]
  have h32 := V32 M d l.2.1 hl ho
  have h27 := V27s (M + 1000) (d + 8) l.1
  have h72 := V72 (M + 1000) (d + 8) (recL h0 l.2.1) l.1.2.1
  have he := eqIs_dec (hdL h0 l.2.1) l.2.2 (by rw [hdL_len _ _ h0_len, hh])
  unfold mayG
  obtain ⟨⟨c, D, u⟩, L, H⟩ := l
  simp only at hl ho hh h32 h27 h72 he ⊢
  have rl := recL_len L h0
  have ql := byL_len (recL h0 L)
  have tkq : List.take (recL h0 L).length (byL (recL h0 L)) = byL (recL h0 L) := List.take_of_length_le (by omega)
  have hzl : (List.replicate 32 (PV.i IntKind.u8 0)).length = 32 := rfl
  have bl := byL_len D
  have uh := uL_len H
  rw [hh] at uh
  have u2 := uL_len (hdL h0 L)
  rw [hdL_len _ _ h0_len] at u2
  have hz := hz32
  simp only [loC, soC, yesPut, noPut] at h32 h27 ⊢
  cases hm : L.all mayE
  · rw [hm] at h32
    simp only [cond_false, ← hz, row] at h32
    clear hz he h72
    generalize byL D = b at *
    generalize enL L = a at *
    generalize uL H = q at *
    generalize hz' : List.replicate 32 (PV.i .u8 0) = zz at *
    simp -implicitDefEqProofs (maxSteps := 1000000) (disch := first | omega | rfl) [m22, h32, hz', hzl, box, KS, getS, getO, gS, zipN, dropW, takeW, wds, stvs, sea, seaL, refs, refsL, refsEls, refsO, isPureEls, isPures, isPure, noExt, noExts, noExtEls, cellsL, ren, renL, renEls, keepO, keepS, keysO, refsS, refsOB, cntN, headC, setS, boxO, row, putW, putB, putB1, eNl, newOs, frz, renO, noExtO, zps, zp, two32, w64, -getElem?_pos]
  · rw [hm] at h32
    simp only [cond_true, row] at h32
    generalize decide (chars (recL h0 L) = chars D) = q1 at *
    generalize decide (hdL h0 L = H) = q2 at *
    rw [← bl]
    rw [← ql] at tkq h32
    generalize byL (recL h0 L) = w at *
    generalize uL (hdL h0 L) = v at *
    generalize byL D = b at *
    generalize enL L = a at *
    generalize uL H = q at *
    generalize hz' : List.replicate 32 (PV.i .u8 0) = zz at *
    cases hs : mayS (c, D, u)
    · rw [hs] at h27
      simp -implicitDefEqProofs (maxSteps := 1000000) (disch := first | omega | rfl) [m22, h32, h27, hz', hzl, box, KS, getS, getO, gS, zipN, dropW, takeW, wds, stvs, sea, seaL, refs, refsL, refsEls, refsO, isPureEls, isPures, isPure, noExt, noExts, noExtEls, cellsL, ren, renL, renEls, keepO, keepS, keysO, refsS, refsOB, cntN, headC, setS, boxO, row, putW, putB, putB1, eNl, newOs, frz, renO, noExtO, zps, zp, two32, w64, -getElem?_pos]
    · rw [hs] at h27
      cases e1 : u == (b.length : Int)
      · simp -implicitDefEqProofs (maxSteps := 1000000) (disch := first | omega | rfl) [m22, h32, h27, e1, hz', hzl, box, KS, getS, getO, gS, zipN, dropW, takeW, wds, stvs, sea, seaL, refs, refsL, refsEls, refsO, isPureEls, isPures, isPure, noExt, noExts, noExtEls, cellsL, ren, renL, renEls, keepO, keepS, keysO, refsS, refsOB, cntN, headC, setS, boxO, row, putW, putB, putB1, eNl, newOs, frz, renO, noExtO, zps, zp, two32, w64, -getElem?_pos]
      · cases q1
        · simp -implicitDefEqProofs (maxSteps := 1000000) (disch := first | omega | rfl) [m22, h32, h27, h72, e1, tkq, hz', hzl, box, KS, getS, getO, gS, zipN, dropW, takeW, wds, stvs, sea, seaL, refs, refsL, refsEls, refsO, isPureEls, isPures, isPure, noExt, noExts, noExtEls, cellsL, ren, renL, renEls, keepO, keepS, keysO, refsS, refsOB, cntN, headC, setS, boxO, row, putW, putB, putB1, eNl, newOs, frz, renO, noExtO, zps, zp, two32, w64, -getElem?_pos]
        · cases q2
          · simp -implicitDefEqProofs (maxSteps := 1000000) (disch := first | omega | rfl) [m22, h32, h27, h72, he, e1, tkq, hz', hzl, box, KS, getS, getO, gS, zipN, dropW, takeW, wds, stvs, sea, seaL, refs, refsL, refsEls, refsO, isPureEls, isPures, isPure, noExt, noExts, noExtEls, cellsL, ren, renL, renEls, keepO, keepS, keysO, refsS, refsOB, cntN, headC, setS, boxO, row, putW, putB, putB1, eNl, newOs, frz, renO, noExtO, zps, zp, two32, w64, -getElem?_pos]
          · simp -implicitDefEqProofs (maxSteps := 1000000) (disch := first | omega | rfl) [m22, h32, h27, h72, he, e1, tkq, hz', hzl, box, KS, getS, getO, gS, zipN, dropW, takeW, wds, stvs, sea, seaL, refs, refsL, refsEls, refsO, isPureEls, isPures, isPure, noExt, noExts, noExtEls, cellsL, ren, renL, renEls, keepO, keepS, keysO, refsS, refsOB, cntN, headC, setS, boxO, row, putW, putB, putB1, eNl, newOs, frz, renO, noExtO, zps, zp, two32, w64, -getElem?_pos]
def sameG (l m : Lo) : Bool := sameS l.1 m.1 && (sameL l.2.1 m.2.1 && decide (l.2.2 = m.2.2))
set_option maxHeartbeats 4000000 in
theorem V23g (N d : Nat) (l m : Lo) (hl : l.2.1.length < 1000) (hh : l.2.2.length = 32) (hh' : m.2.2.length = 32) : sem tab (N + 1000) (d + 3) 23 [.agg (loC false l), .agg (loC false m)] [] = some (.b (sameG l m), []) := by
  rw [sem_succ tab (N + 1000) (d + 2) 23 m23 rfl]
  have h54 := V54s (N + 1000) d l.1 m.1
  have h37 := V37 N d l.2.1 m.2.1 hl
  have he := eqIs_dec l.2.2 m.2.2 (by omega)
  have uh := uL_len l.2.2
  have uh' := uL_len m.2.2
  rw [hh] at uh
  rw [hh'] at uh'
  unfold sameG
  obtain ⟨⟨c, D, u⟩, L, H⟩ := l
  obtain ⟨⟨c', D', u'⟩, L', H'⟩ := m
  simp only at h54 h37 he uh uh' ⊢
  simp only [loC, soC] at h54 ⊢
  generalize decide (H = H') = q3 at *
  generalize sameL L L' = q2 at *
  generalize sameS (c, D, u) (c', D', u') = q1 at *
  generalize byL D = b at *
  generalize byL D' = b' at *
  generalize enL L = a at *
  generalize enL L' = a' at *
  generalize uL H = q at *
  generalize uL H' = q' at *
  cases q1
  · simp -implicitDefEqProofs (maxSteps := 1000000) (disch := first | omega | rfl) [m23, h54, box, KS, getS, getO, gS, zipN, dropW, takeW, wds, stvs, sea, seaL, refs, refsL, refsEls, refsO, isPureEls, isPures, isPure, noExt, noExts, noExtEls, cellsL, ren, renL, renEls, keepO, keepS, keysO, refsS, refsOB, cntN, headC, setS, boxO, row, putW, putB, putB1, eNl, newOs, frz, renO, noExtO, zps, zp, two32, w64, -getElem?_pos]
  · cases q2
    · simp -implicitDefEqProofs (maxSteps := 1000000) (disch := first | omega | rfl) [m23, h54, h37, box, KS, getS, getO, gS, zipN, dropW, takeW, wds, stvs, sea, seaL, refs, refsL, refsEls, refsO, isPureEls, isPures, isPure, noExt, noExts, noExtEls, cellsL, ren, renL, renEls, keepO, keepS, keysO, refsS, refsOB, cntN, headC, setS, boxO, row, putW, putB, putB1, eNl, newOs, frz, renO, noExtO, zps, zp, two32, w64, -getElem?_pos]
    · cases q3 <;> simp -implicitDefEqProofs (maxSteps := 1000000) (disch := first | omega | rfl) [m23, h54, h37, he, uh, uh', box, KS, getS, getO, gS, zipN, dropW, takeW, wds, stvs, sea, seaL, refs, refsL, refsEls, refsO, isPureEls, isPures, isPure, noExt, noExts, noExtEls, cellsL, ren, renL, renEls, keepO, keepS, keysO, refsS, refsOB, cntN, headC, setS, boxO, row, putW, putB, putB1, eNl, newOs, frz, renO, noExtO, zps, zp, two32, w64, -getElem?_pos]
end
section
/-- For how many entries there is room in all. -/
def slots (c : Int) : Int := c.tdiv 62
def okC64 (c : Int) : Prop := -9223372036854775808 ≤ c ∧ c ≤ 9223372036854775807
theorem slots_range {c : Int} (h : okC64 c) : -200000000000000000 ≤ slots c ∧ slots c ≤ 200000000000000000 := by
  unfold okC64 at h
  unfold slots
  by_cases h0 : 0 ≤ c
  · rw [Int.tdiv_eq_ediv_of_nonneg h0]; omega
  · have e : c.tdiv 62 = -((-c).tdiv 62) := by rw [Int.neg_tdiv]; omega
    rw [e, Int.tdiv_eq_ediv_of_nonneg (by omega)]; omega
def lbox (g : Bool) (l : Lo) : Obj' := box (loC g l) 36
theorem V60s (N d : Nat) (g : Bool) (l : Lo) (h : okC64 l.1.1) : sem tab N (d + 1) 60 [.p 0 0 0 0 none] [lbox g l] = some (.i .i64 (slots l.1.1), [lbox g l]) := by
  rw [sem_succ tab N d 60 m60 rfl]
  obtain ⟨⟨c, D, u⟩, L, H⟩ := l
  have sr := slots_range h
  simp only at h sr
  have w : IntKind.i64.wrap (c.tdiv 62) = c.tdiv 62 := by unfold slots at sr; exact w64 (by omega) (by omega)
  simp only [lbox, loC, slots]
  generalize byL D = b at *
  generalize enL L = a at *
  generalize uL H = q at *
  simp -implicitDefEqProofs (maxSteps := 1000000) (disch := first | omega | rfl) [m60, w, k_nc, fin, resOs, refsOuts, refsX, outOs, outX, seaEls, seaL, resO, sea, one, box, KS, getS, getO, gS, zipN, dropW, takeW, wds, stvs, sea, seaL, refs, refsL, refsEls, refsO, isPureEls, isPures, isPure, noExt, noExts, noExtEls, cellsL, ren, renL, renEls, keepO, keepS, keysO, refsS, refsOB, cntN, headC, setS, boxO, row, putW, putB, putB1, eNl, newOs, frz, renO, noExtO, zps, zp, two32, w64, -getElem?_pos]
theorem k_crs (Φ : Sem') (ob : OB) (d k o : Nat) (g : Bool) (l : Lo) (n : Int) (ho : getO ob o = some (lbox g l)) (H : Φ k [.p 0 0 0 0 none] [lbox g l] = some (.i .i64 n, [lbox g l])) :
    cr Φ ob d false k [.p o 0 0 0 none] = some (.i .i64 n, []) := by
  have hc : ca Φ ob d false k [.p o 0 0 0 none] = some (.i .i64 n, [(o, lbox g l)]) := by
    obtain ⟨⟨c, D, u⟩, L, Hd⟩ := l
    simp only [lbox, loC, box] at ho H ⊢
    simp [ca, hand, reifies, reify, reifyL, reify0, refs, refsL, refsEls, refsO, reach, ho, getOs, idx, renL, ren, renEls, renO, H, back, putOs, newOs, nth, noExt, noExts]
  have hj : ∀ j, getO ([(o, lbox g l)] ++ ob) j = getO ob j := fun j => by
    change (if o = j then some (lbox g l) else getO ob j) = getO ob j
    split
    · rename_i e; subst e; exact ho.symm
    · rfl
  rw [cr, hc, crX, if_pos ⟨hj, rfl⟩]
/-- For how many entries that can wait there is room. -/
def waitN (l : Lo) : Int := max 0 (slots l.1.1 - 4 - l.2.1.length)
set_option maxHeartbeats 4000000 in
theorem V31r (N d : Nat) (g : Bool) (l : Lo) (h : okC64 l.1.1) (hl : l.2.1.length ≤ 50000) : sem tab N (d + 2) 31 [.p 0 0 0 0 none] [lbox g l] = some (.tup [.b (decide ((l.2.1.length : Int) < slots l.1.1)), .i .i64 (waitN l)], [lbox g l]) := by
  rw [sem_succ tab N (d + 1) 31 m31 rfl]
  have hk := fun n => k_crs (sem tab N (d + 1)) [(0, lbox g l)] n 60 0 g l _ rfl (V60s N d g l h)
  have sr := slots_range h
  unfold waitN
  obtain ⟨⟨c, D, u⟩, L, H⟩ := l
  simp only at h sr hl hk ⊢
  have el := enL_len L
  generalize slots c = s at *
  have w1 : IntKind.i64.wrap (s - 4) = s - 4 := w64 (by omega) (by omega)
  have w2 : IntKind.i64.wrap (s - 4 - (L.length : Int)) = s - 4 - (L.length : Int) := w64 (by omega) (by omega)
  simp only [lbox, loC, box] at hk ⊢
  rw [← el] at w2
  rw [← el]
  generalize byL D = b at *
  generalize enL L = a at *
  generalize uL H = q at *
  simp -implicitDefEqProofs (maxSteps := 1000000) (disch := first | omega | rfl) [m31, hk, w1, w2, k_mx, k_nc, fin, resOs, refsOuts, refsX, outOs, outX, seaEls, seaL, resO, sea, one, box, KS, getS, getO, gS, zipN, dropW, takeW, wds, stvs, sea, seaL, refs, refsL, refsEls, refsO, isPureEls, isPures, isPure, noExt, noExts, noExtEls, cellsL, ren, renL, renEls, keepO, keepS, keysO, refsS, refsOB, cntN, headC, setS, boxO, row, putW, putB, putB1, eNl, newOs, frz, renO, noExtO, zps, zp, two32, w64, -getElem?_pos]
theorem k_ca31 (Φ : Sem') (ob : OB) (d k o : Nat) (g : Bool) (l : Lo) (x : Bool) (n : Int) (ho : getO ob o = some (lbox g l)) (H : Φ k [.p 0 0 0 0 none] [lbox g l] = some (.tup [.b x, .i .i64 n], [lbox g l])) :
    ca Φ ob d false k [.p o 0 0 0 none] = some (.tup [.b x, .i .i64 n], [(o, lbox g l)]) := by
  obtain ⟨⟨c, D, u⟩, L, Hd⟩ := l
  simp only [lbox, loC, box] at ho H ⊢
  simp [ca, hand, reifies, reify, reifyL, reify0, refs, refsL, refsEls, refsO, reach, ho, getOs, idx, renL, ren, renEls, renO, H, back, putOs, newOs, nth, noExt, noExts]
end
section
def loR (l : Lo) (e : Int) : Option R := some (.tup [.agg (loC true l), .i .i64 e], [])
/-- No log. -/
def zeLo : Lo := ((0, [], 0), [], zero32L)
/-- The log of a store that may be. -/
noncomputable def openL (s : So) : Lo := ((s.1, s.2.1.take (62 * (rdL s.2.1).length), ((62 * (rdL s.2.1).length : Nat) : Int)), rdL s.2.1, rdH s.2.1)
theorem rdL_le (bs : List Int) (hr : byR bs) : 62 * (rdL bs).length ≤ bs.length := by
  have := (rd_spec 264 h0 bs hr).2.2.2.1
  rw [show goodS (stepsL 264 h0 bs) = rdS bs from rfl] at this
  rw [rdL, List.length_map]; exact this
set_option maxHeartbeats 8000000 in
theorem V13o (M d : Nat) (s : So) (h : s.2.1.length ≤ 50000) (hr : byR s.2.1) : sem tab (M + 1000) (d + 11) 13 [.agg (soC false s)] [] = cond (mayS s) (loR (openL s) 0) (loR zeLo 1) := by
  rw [sem_succ tab (M + 1000) (d + 10) 13 m13 rfl]
  have h27 := V27s (M + 1000) (d + 9) s
  have hz := hz32
  unfold loR
  cases hm : mayS s
  · rw [hm] at h27
    obtain ⟨c, D, u⟩ := s
    simp only [soC, loC, zeLo, show byL [] = [] from rfl, show enL [] = [] from rfl, ← hz] at h27 ⊢
    clear hz
    have hzl : (List.replicate 32 (PV.i IntKind.u8 0)).length = 32 := rfl
    generalize byL D = b at *
    generalize hz' : List.replicate 32 (PV.i .u8 0) = zz at *
    simp -implicitDefEqProofs (maxSteps := 1000000) (disch := first | omega | rfl) [m13, h27, hz', hzl, box, KS, getS, getO, gS, zipN, dropW, takeW, wds, stvs, sea, seaL, refs, refsL, refsEls, refsO, isPureEls, isPures, isPure, noExt, noExts, noExtEls, cellsL, ren, renL, renEls, keepO, keepS, keysO, refsS, refsOB, cntN, headC, setS, boxO, row, putW, putB, putB1, eNl, newOs, frz, renO, noExtO, zps, zp, two32, w64, -getElem?_pos]
  · rw [hm] at h27
    have h31 := V31 M d s.2.1 (by omega) hr
    have rl := rdL_le s.2.1 hr
    have h40 := V40c (M + 1000) (d + 6) s ((62 * (rdL s.2.1).length : Nat) : Int) h
    rw [outC, hm, decide_eq_true (by omega), cond_true, cond_true, Int.toNat_natCast] at h40
    have hdl : (rdH s.2.1).length = 32 := by
      have := (rd_spec 264 h0 s.2.1 hr).2.2.1
      rw [show rdH s.2.1 = _ from this.symm]
      exact hdL_len _ _ h0_len
    have ul := uL_len (rdH s.2.1)
    rw [hdl] at ul
    have el := enL_len (rdL s.2.1)
    have te : List.take (rdL s.2.1).length (enL (rdL s.2.1)) = enL (rdL s.2.1) := List.take_of_length_le (by omega)
    simp only [openL, stR, outR] at h31 h40 ⊢
    obtain ⟨c, D, u⟩ := s
    simp only [soC, loC] at h27 h31 h40 ul el te ⊢
    clear hz
    have hzl : (List.replicate 32 (PV.i IntKind.u8 0)).length = 32 := rfl
    generalize byL (List.take (62 * (rdL D).length) D) = b' at *
    generalize byL D = b at *
    generalize enL (rdL D) = a at *
    generalize uL (rdH D) = q at *
    generalize 62 * (rdL D).length = n at *
    generalize hz' : List.replicate 32 (PV.i .u8 0) = zz at *
    simp only [row] at h31
    simp -implicitDefEqProofs (maxSteps := 1000000) (disch := first | omega | rfl) [m13, h27, h31, h40, ul, el, te, hz', hzl, box, KS, getS, getO, gS, zipN, dropW, takeW, wds, stvs, sea, seaL, refs, refsL, refsEls, refsO, isPureEls, isPures, isPure, noExt, noExts, noExtEls, cellsL, ren, renL, renEls, keepO, keepS, keysO, refsS, refsOB, cntN, headC, setS, boxO, row, putW, putB, putB1, eNl, newOs, frz, renO, noExtO, zps, zp, two32, w64, -getElem?_pos]
set_option maxHeartbeats 4000000 in
theorem V15n (M d : Nat) (r : Int) : sem tab (M + 1000) (d + 9) 15 [.i .i64 r] [] = cond (mayS (r, [], 0)) (some (.tup [.agg (loC true ((r, [], 0), [], h0)), .b true], [])) (some (.tup [.agg (loC true zeLo), .b false], [])) := by
  rw [sem_succ tab (M + 1000) (d + 8) 15 m15 rfl]
  have h44 := V44n (M + 1000) (d + 6) r
  have h45 := V45 M d
  rw [show sumI' [0] = h0 from rfl] at h45
  have ul := uL_len h0
  rw [h0_len] at ul
  have hz := hz32
  have hzl : (List.replicate 32 (PV.i IntKind.u8 0)).length = 32 := rfl
  simp only [soC, loC, zeLo, show byL [] = [] from rfl, show enL [] = [] from rfl, ← hz] at h44 ⊢
  clear hz
  generalize uL h0 = q at *
  generalize hz' : List.replicate 32 (PV.i .u8 0) = zz at *
  cases hm : mayS (r, [], 0) <;> rw [hm] at h44 <;> simp -implicitDefEqProofs (maxSteps := 1000000) (disch := first | omega | rfl) [m15, h44, h45, ul, hz', hzl, box, KS, getS, getO, gS, zipN, dropW, takeW, wds, stvs, sea, seaL, refs, refsL, refsEls, refsO, isPureEls, isPures, isPure, noExt, noExts, noExtEls, cellsL, ren, renL, renEls, keepO, keepS, keysO, refsS, refsOB, cntN, headC, setS, boxO, row, putW, putB, putB1, eNl, newOs, frz, renO, noExtO, zps, zp, two32, w64, -getElem?_pos]
/-- For how many entries that can wait a log has room. -/
noncomputable def roomL (l : Lo) : Int := cond (mayG l) (waitN l) 0
set_option maxHeartbeats 4000000 in
theorem V24r (M d : Nat) (l : Lo) (hc : okC64 l.1.1) (hl : l.2.1.length ≤ 264) (ho : ∀ e ∈ l.2.1, okE e) (hh : l.2.2.length = 32) : sem tab (M + 1000) (d + 11) 24 [.agg (loC false l)] [] = some (.i .i64 (roomL l), []) := by
  rw [sem_succ tab (M + 1000) (d + 10) 24 m24 rfl]
  have h22 := V22g M d l hl ho hh
  have h31 := V31r (M + 1000) (d + 8) false l hc (by omega)
  have hzl : (List.replicate 32 (PV.i IntKind.u8 0)).length = 32 := rfl
  unfold roomL
  generalize decide ((l.2.1.length : Int) < slots l.1.1) = x at *
  generalize waitN l = n at *
  cases hm : mayG l
  · rw [hm] at h22
    obtain ⟨⟨c, D, u⟩, L, H⟩ := l
    simp only [loC] at h22 ⊢
    generalize byL D = b at *
    generalize enL L = a at *
    generalize uL H = q at *
    generalize hz' : List.replicate 32 (PV.i .u8 0) = zz at *
    simp -implicitDefEqProofs (maxSteps := 1000000) (disch := first | omega | rfl) [m24, h22, hz', hzl, box, KS, getS, getO, gS, zipN, dropW, takeW, wds, stvs, sea, seaL, refs, refsL, refsEls, refsO, isPureEls, isPures, isPure, noExt, noExts, noExtEls, cellsL, ren, renL, renEls, keepO, keepS, keysO, refsS, refsOB, cntN, headC, setS, boxO, row, putW, putB, putB1, eNl, newOs, frz, renO, noExtO, zps, zp, two32, w64, -getElem?_pos]
  · rw [hm] at h22
    have ul := uL_len l.2.2
    rw [hh] at ul
    have hca := k_ca31 (sem tab (M + 1000) (d + 10)) [(152, lbox false l), (72, lbox false l)] 160 31 152 false l x n rfl h31
    obtain ⟨⟨c, D, u⟩, L, H⟩ := l
    simp only [lbox, loC, box] at h22 hca ul ⊢
    generalize byL D = b at *
    generalize enL L = a at *
    generalize uL H = q at *
    generalize hz' : List.replicate 32 (PV.i .u8 0) = zz at *
    simp -implicitDefEqProofs (maxSteps := 1000000) (disch := first | omega | rfl) [m24, h22, hca, ul, hz', hzl, box, KS, getS, getO, gS, zipN, dropW, takeW, wds, stvs, sea, seaL, refs, refsL, refsEls, refsO, isPureEls, isPures, isPure, noExt, noExts, noExtEls, cellsL, ren, renL, renEls, keepO, keepS, keysO, refsS, refsOB, cntN, headC, setS, boxO, row, putW, putB, putB1, eNl, newOs, frz, renO, noExtO, zps, zp, two32, w64, -getElem?_pos]
end
section
theorem k_finO (ob : OB) (m w w' : Nat) (ws : List Nat) (u u' : PV) : fin ob m (w :: w' :: ws) [u, u'] = bnd (resO m ob (refs u ++ (refs u' ++ refsOuts ob 0 m)) m w u) fun a => bnd (resO m ob (refs u ++ (refs u' ++ refsOuts ob 0 m)) (m + a.2.length) w' u') fun b => bnd (outOs m ob 0 m) fun x => some (.tup [a.1, b.1], x ++ (a.2 ++ b.2)) := by
  simp only [fin, refsL, List.append_nil, resOs, List.headD_cons, List.tail_cons, List.append_assoc]
  cases resO m ob (refs u ++ (refs u' ++ refsOuts ob 0 m)) m w u with
  | none => rfl
  | some r =>
    simp only [k_bnd]
    cases resO m ob (refs u ++ (refs u' ++ refsOuts ob 0 m)) (m + r.2.length) w' u' with
    | none => rfl
    | some q =>
      simp only [k_bnd]
      cases outOs m ob 0 m with
      | none => rfl
      | some x => simp [one, k_bnd]
theorem k_finO1 (ob : OB) (m w : Nat) (ws : List Nat) (u : PV) : fin ob m (w :: ws) [u] = bnd (resO m ob (refs u ++ refsOuts ob 0 m) m w u) fun a => bnd (outOs m ob 0 m) fun x => some (a.1, x ++ a.2) := by
  simp only [fin, refsL, List.append_nil, resOs, List.headD_cons, List.tail_cons, List.append_assoc]
  cases resO m ob (refs u ++ refsOuts ob 0 m) m w u with
  | none => rfl
  | some r =>
    simp only [k_bnd]
    cases outOs m ob 0 m with
    | none => rfl
    | some x => simp [one, k_bnd]
/-- A log's box, rows of its own. -/
def bxB (c u : Int) (o1 o2 nD nL : Nat) (q : List PV) : Obj' := { els := [[.i .i64 c, .sl o1 0 0 nD, .i .i64 u, .sl o2 0 0 nL, .blob 32 q]], w := 36, pu := false, g := true, cap := none, ver := 0, fro := false }
def rwB (b : List (List PV)) (w : Nat) : Obj' := { els := b, w := w, pu := true, g := true, cap := none, ver := 0, fro := false }
def osB (c u : Int) (nD nL : Nat) (q : List PV) (b a : List (List PV)) : List Obj' := [bxB c u 1 2 nD nL q, rwB b 1, rwB a 9]
theorem V60b (N d : Nat) (c u : Int) (nD nL : Nat) (q : List PV) (b a : List (List PV)) (h : okC64 c) : sem tab N (d + 1) 60 [.p 0 0 0 0 none] (osB c u nD nL q b a) = some (.i .i64 (slots c), osB c u nD nL q b a) := by
  rw [sem_succ tab N d 60 m60 rfl]
  have sr := slots_range h
  have w : IntKind.i64.wrap (c.tdiv 62) = c.tdiv 62 := by unfold slots at sr; exact w64 (by omega) (by omega)
  simp only [slots, osB, bxB, rwB]
  simp -implicitDefEqProofs (maxSteps := 1000000) (disch := first | omega | rfl) [m60, w, k_nc, k_finO1, refsOuts, refsX, outOs, outX, seaEls, KS, getS, getO, gS, zipN, dropW, takeW, wds, stvs, sea, seaL, refs, refsL, refsEls, refsO, isPureEls, isPures, isPure, noExt, noExts, noExtEls, cellsL, ren, renL, renEls, keepO, keepS, keysO, refsS, refsOB, cntN, headC, setS, boxO, row, putW, putB, putB1, eNl, newOs, frz, renO, noExtO, zps, zp, two32, w64, -getElem?_pos]
theorem k_crb (Φ : Sem') (d k : Nat) (c u n : Int) (nD nL : Nat) (q : List PV) (b a : List (List PV)) (H : Φ k [.p 0 0 0 0 none] (osB c u nD nL q b a) = some (.i .i64 n, osB c u nD nL q b a)) :
    cr Φ [(0, bxB c u 1 2 nD nL q), (1, rwB b 1), (2, rwB a 9)] d false k [.p 0 0 0 0 none] = some (.i .i64 n, []) := by
  have hc : ca Φ [(0, bxB c u 1 2 nD nL q), (1, rwB b 1), (2, rwB a 9)] d false k [.p 0 0 0 0 none] = some (.i .i64 n, [(0, bxB c u 1 2 nD nL q), (1, rwB b 1), (2, rwB a 9)]) := by
    simp only [osB, bxB, rwB] at H ⊢
    simp [ca, hand, reifies, reify, reifyL, reify0, refs, refsL, refsEls, refsO, reach, getO, getOs, idx, renL, ren, renEls, renO, H, back, putOs, newOs, nth, noExt, noExts]
  have hj : ∀ j, getO ([(0, bxB c u 1 2 nD nL q), (1, rwB b 1), (2, rwB a 9)] ++ [(0, bxB c u 1 2 nD nL q), (1, rwB b 1), (2, rwB a 9)]) j = getO [(0, bxB c u 1 2 nD nL q), (1, rwB b 1), (2, rwB a 9)] j := fun j => by
    simp only [List.cons_append, List.nil_append, getO]
    by_cases e0 : 0 = j
    · simp [e0]
    · by_cases e1 : 1 = j
      · simp [e0, e1]
      · by_cases e2 : 2 = j
        · simp [e0, e1, e2]
        · simp [e0, e1, e2]
  rw [cr, hc, crX, if_pos ⟨hj, rfl⟩]
set_option maxHeartbeats 4000000 in
theorem V31b (N d : Nat) (c u : Int) (nD nL : Nat) (q : List PV) (b a : List (List PV)) (h : okC64 c) (hl : nL ≤ 50000) : sem tab N (d + 2) 31 [.p 0 0 0 0 none] (osB c u nD nL q b a) = some (.tup [.b (decide ((nL : Int) < slots c)), .i .i64 (max 0 (slots c - 4 - nL))], osB c u nD nL q b a) := by
  rw [sem_succ tab N (d + 1) 31 m31 rfl]
  have hk := fun n => k_crb (sem tab N (d + 1)) n 60 c u _ nD nL q b a (V60b N d c u nD nL q b a h)
  have sr := slots_range h
  generalize slots c = s at *
  have w1 : IntKind.i64.wrap (s - 4) = s - 4 := w64 (by omega) (by omega)
  have w2 : IntKind.i64.wrap (s - 4 - (nL : Int)) = s - 4 - (nL : Int) := w64 (by omega) (by omega)
  simp only [osB, bxB, rwB] at hk ⊢
  simp -implicitDefEqProofs (maxSteps := 1000000) (disch := first | omega | rfl) [m31, hk, w1, w2, k_mx, k_nc, k_finO, refsOuts, refsX, outOs, outX, seaEls, KS, getS, getO, gS, zipN, dropW, takeW, wds, stvs, sea, seaL, refs, refsL, refsEls, refsO, isPureEls, isPures, isPure, noExt, noExts, noExtEls, cellsL, ren, renL, renEls, keepO, keepS, keysO, refsS, refsOB, cntN, headC, setS, boxO, row, putW, putB, putB1, eNl, newOs, frz, renO, noExtO, zps, zp, two32, w64, -getElem?_pos]
theorem k_ca31b (Φ : Sem') (ob : OB) (d k : Nat) (c u n : Int) (x : Bool) (nD nL : Nat) (q : List PV) (b a : List (List PV)) (h0 : getO ob 200 = some (bxB c u 184 185 nD nL q)) (h1 : getO ob 184 = some (rwB b 1)) (h2 : getO ob 185 = some (rwB a 9))
    (H : Φ k [.p 0 0 0 0 none] (osB c u nD nL q b a) = some (.tup [.b x, .i .i64 n], osB c u nD nL q b a)) :
    ca Φ ob d false k [.p 200 0 0 0 none] = some (.tup [.b x, .i .i64 n], [(200, bxB c u 184 185 nD nL q), (184, rwB b 1), (185, rwB a 9)]) := by
  simp only [osB, bxB, rwB] at H h0 h1 h2 ⊢
  simp [ca, hand, reifies, reify, reifyL, reify0, refs, refsL, refsEls, refsO, reach, h0, h1, h2, getOs, idx, renL, ren, renEls, renO, H, back, putOs, newOs, nth, noExt, noExts]
set_option maxHeartbeats 8000000 in
theorem V32b (M d : Nat) (c u : Int) (nD nL : Nat) (H : List Int) (b a : List (List PV)) (e : En) (hh : H.length = 32) (ho : okE e) (hm : mayE e = true) : sem tab (M + 1000) (d + 9) 32 [.p 0 0 0 0 none, .agg (enC e)] (osB c u nD nL (uL H) b a) = some (.tup [.sl 3 0 0 62, .agg [.blob 32 (uL (linkH H e))]], [bxB c u 1 2 nD nL (uL H), rwB b 1, rwB a 9, rwB (byL (encB e ++ linkH H e)) 1]) := by
  rw [sem_succ tab (M + 1000) (d + 8) 32 m32 rfl]
  have h34 := V34 (M + 900) (d + 4) e ho
  rw [show M + 900 + 100 = M + 1000 by omega, show d + 4 + 4 = d + 8 by omega, hm, cond_true] at h34
  have h36 := V36 M d H e hh ho
  rw [linkC, hm, cond_true] at h36
  have h63 := L38 (M + 997) (d + 6) (encB e) (linkH H e) (by rw [encB_len, linkH_len]; omega)
  rw [encB_len, linkH_len] at h63
  have be := byL_len (encB e)
  rw [encB_len] at be
  have te : List.take 30 (byL (encB e)) = byL (encB e) := List.take_of_length_le (by omega)
  have ql := uL_len (linkH H e)
  rw [linkH_len] at ql
  have tu := take_u (linkH H e) (linkH_len H e)
  have tu0 : (uL (linkH H e)).take 32 = uL (linkH H e) := by rw [← List.drop_zero (l := uL (linkH H e))]; exact tu
  have mu := map_u (linkH H e)
  have wl := byL_len (encB e ++ linkH H e)
  simp only [List.length_append, encB_len, linkH_len] at wl
  have tw : List.take 62 (byL (encB e ++ linkH H e)) = byL (encB e ++ linkH H e) := List.take_of_length_le (by omega)
  have uh := uL_len H
  rw [hh] at uh
  simp only [osB, bxB, rwB]
  generalize byL (encB e ++ linkH H e) = w at *
  generalize byL (linkH H e) = bq at *
  generalize byL (encB e) = eb at *
  generalize uL (linkH H e) = v at *
  generalize uL H = q at *
  obtain ⟨e1, e2, e3, e4, e5, e6, e7, e8, e9⟩ := e
  simp only [enC] at h34 h36 ⊢
  simp only [row] at h34 h63
  generalize hz' : List.replicate 32 (PV.i .u8 0) = zz at *
  simp -implicitDefEqProofs (maxSteps := 1000000) (disch := first | omega | rfl) [m32, h34, h36, h63, be, te, ql, tu, tu0, mu, wl, tw, uh, hz', k_nc, k_finO, refsOuts, refsX, outOs, outX, seaEls, KV, KS, getS, getO, gS, zipN, dropW, takeW, wds, stvs, sea, seaL, refs, refsL, refsEls, refsO, isPureEls, isPures, isPure, noExt, noExts, noExtEls, cellsL, ren, renL, renEls, keepO, keepS, keysO, refsS, refsOB, cntN, headC, setS, boxO, row, putW, putB, putB1, eNl, newOs, frz, renO, noExtO, zps, zp, two32, w64, -getElem?_pos]
theorem k_ca32b (Φ : Sem') (ob : OB) (d k : Nat) (c u : Int) (nD nL : Nat) (q v : List PV) (b a w : List (List PV)) (e : En) (h0 : getO ob 200 = some (bxB c u 184 185 nD nL q)) (h1 : getO ob 184 = some (rwB b 1)) (h2 : getO ob 185 = some (rwB a 9)) (hd : getO ob d = none)
    (H : Φ k [.p 0 0 0 0 none, .agg (enC e)] (osB c u nD nL q b a) = some (.tup [.sl 3 0 0 62, .agg [.blob 32 v]], [bxB c u 1 2 nD nL q, rwB b 1, rwB a 9, rwB w 1])) :
    ca Φ ob d false k [.p 200 0 0 0 none, .agg (enC e)] = some (.tup [.sl d 0 0 62, .agg [.blob 32 v]], [(d, rwB w 1), (200, bxB c u 184 185 nD nL q), (184, rwB b 1), (185, rwB a 9)]) := by
  obtain ⟨e1, e2, e3, e4, e5, e6, e7, e8, e9⟩ := e
  simp only [osB, bxB, rwB, enC] at H h0 h1 h2 ⊢
  simp [ca, hand, reifies, reify, reifyL, reify0, refs, refsL, refsEls, refsO, reach, h0, h1, h2, hd, getOs, idx, renL, ren, renEls, renO, H, back, putOs, newOs, nth, noExt, noExts]
end
section
/-- A log with one record more. -/
noncomputable def moreG (l : Lo) (e : En) : Lo := ((l.1.1, l.1.2.1 ++ (encB e ++ linkH l.2.2 e), ((l.1.2.1 ++ (encB e ++ linkH l.2.2 e)).length : Int)), l.2.1 ++ [e], linkH l.2.2 e)
noncomputable def addR (l : Lo) (e : En) (urg : Bool) : Lo × Int :=
  cond (mayG l && mayE e) (cond (decide ((l.2.1.length : Int) < slots l.1.1) && (!(waitN l == 0) || urg)) (moreG l e, 0) (l, 12)) (l, 1)
theorem mayG_spec {l : Lo} (h : mayG l = true) : l.2.1.all mayE = true ∧ mayS l.1 = true ∧ l.1.2.2 = (l.1.2.1.length : Int) ∧ chars (recL h0 l.2.1) = chars l.1.2.1 ∧ hdL h0 l.2.1 = l.2.2 ∧ l.1.2.1.length = 62 * l.2.1.length := by
  simp only [mayG, Bool.and_eq_true, beq_iff_eq, decide_eq_true_eq] at h
  obtain ⟨h1, h2, h3, h4, h5⟩ := h
  refine ⟨h1, h2, h3, h4, h5, ?_⟩
  have := congrArg List.length h4
  simp only [chars, List.length_map, recL_len] at this
  omega
theorem slots_pos {c : Int} (h : 0 ≤ c) : slots c = c / 62 := Int.tdiv_eq_ediv_of_nonneg h
set_option maxHeartbeats 32000000 in
theorem V11a (M d : Nat) (l : Lo) (e : En) (urg : Bool) (hc : okC64 l.1.1) (hD : l.1.2.1.length ≤ 40000) (hl : l.2.1.length ≤ 264) (ho : ∀ e ∈ l.2.1, okE e) (hoe : okE e) (hh : l.2.2.length = 32) :
    sem tab (M + 1000) (d + 12) 11 [.agg (loC false l), .agg (enC e), .b urg] [] = loR (addR l e urg).1 (addR l e urg).2 := by
  rw [sem_succ tab (M + 1000) (d + 11) 11 m11 rfl]
  have h22 := V22g M (d + 1) l hl ho hh
  have h29 := V61 (M + 1000) (d + 9) e
  have h30 := V30o (M + 1000) (d + 9) l (by omega) (by omega)
  have h31 := V31b (M + 1000) (d + 9) l.1.1 l.1.2.2 l.1.2.1.length l.2.1.length (uL l.2.2) (byL l.1.2.1) (enL l.2.1) hc (by omega)
  have k31 := k_ca31b (sem tab (M + 1000) (d + 11)) [(152, box [.blob 32 (List.replicate 32 (.i .u8 0))] 32), (200, bxB l.1.1 l.1.2.2 184 185 l.1.2.1.length l.2.1.length (uL l.2.2)), (184, rwB (byL l.1.2.1) 1), (185, rwB (enL l.2.1) 9), (112, box [.i .i64 0, .e true, .i .i64 0, .e true, .blob 32 (List.replicate 32 (.i .u8 0))] 36), (96, box (enC e) 9), (88, box (loC false l) 36)] 224 31 l.1.1 l.1.2.2 _ _ l.1.2.1.length l.2.1.length (uL l.2.2) (byL l.1.2.1) (enL l.2.1) rfl rfl rfl h31
  have wd0 : waitN l = max 0 (slots l.1.1 - 4 - l.2.1.length) := rfl
  rw [← wd0] at k31
  clear h31 wd0
  have hz := hz32
  have hzl : (List.replicate 32 (PV.i IntKind.u8 0)).length = 32 := rfl
  have bl := byL_len l.1.2.1
  have el := enL_len l.2.1
  have tkb : List.take l.1.2.1.length (byL l.1.2.1) = byL l.1.2.1 := List.take_of_length_le (by omega)
  have tke : List.take l.2.1.length (enL l.2.1) = enL l.2.1 := List.take_of_length_le (by omega)
  have uh := uL_len l.2.2
  rw [hh] at uh
  unfold addR loR
  clear hz
  by_cases hmm : (mayG l && mayE e) = true
  · have hmm' := hmm
    rw [Bool.and_eq_true] at hmm'
    obtain ⟨hm, hme⟩ := hmm'
    rw [hmm]
    rw [hm] at h22
    rw [hme] at h29
    by_cases hr : (decide ((l.2.1.length : Int) < slots l.1.1) && (!(waitN l == 0) || urg)) = true
    · rw [hr]
      rw [Bool.and_eq_true, decide_eq_true_eq] at hr
      obtain ⟨r1, r2⟩ := hr
      obtain ⟨g1, g2, g3, g4, g5, g6⟩ := mayG_spec hm
      have h32 := V32b M (d + 2) l.1.1 l.1.2.2 l.1.2.1.length l.2.1.length l.2.2 (byL l.1.2.1) (enL l.2.1) e hh hoe hme
      have k32 := k_ca32b (sem tab (M + 1000) (d + 11)) ((200, bxB l.1.1 l.1.2.2 184 185 l.1.2.1.length l.2.1.length (uL l.2.2)) :: (184, rwB (byL l.1.2.1) 1) :: (185, rwB (enL l.2.1) 9) :: [(152, box [.blob 32 (List.replicate 32 (.i .u8 0))] 32), (200, bxB l.1.1 l.1.2.2 184 185 l.1.2.1.length l.2.1.length (uL l.2.2)), (184, rwB (byL l.1.2.1) 1), (185, rwB (enL l.2.1) 9), (112, box [.i .i64 0, .e true, .i .i64 0, .e true, .blob 32 (List.replicate 32 (.i .u8 0))] 36), (96, box (enC e) 9), (88, box (loC false l) 36)]) 416 32 l.1.1 l.1.2.2 l.1.2.1.length l.2.1.length (uL l.2.2) _ (byL l.1.2.1) (enL l.2.1) _ e rfl rfl rfl rfl h32
      clear h32
      have h33 := V33w M (d + 6) l.1 (encB e ++ linkH l.2.2 e) (by omega) (by simp [encB_len, linkH_len])
      have rlen : (encB e ++ linkH l.2.2 e).length = 62 := by simp [encB_len, linkH_len]
      have ms := g2
      simp only [mayS, Bool.and_eq_true, decide_eq_true_eq] at ms
      rw [slots_pos (by omega)] at r1
      have lf : leftS l.1 = l.1.1 - l.1.2.1.length := by rw [leftS, g2]; rfl
      rw [outW, g2, decide_eq_false (by rw [lf, rlen]; omega)] at h33
      simp only [cond_true, cond_false] at h33
      have h34 := V34y (M + 1000) (d + 7) (l.1.1, l.1.2.1 ++ (encB e ++ linkH l.2.2 e), l.1.2.2) (by simp only [List.length_append, encB_len, linkH_len]; omega)
      have ms2 : mayS (l.1.1, l.1.2.1 ++ (encB e ++ linkH l.2.2 e), l.1.2.2) = true := by
        simp only [mayS, Bool.and_eq_true, decide_eq_true_eq, List.length_append, encB_len, linkH_len]
        omega
      rw [outY, ms2, cond_true] at h34
      have r1' : decide ((l.2.1.length : Int) < slots l.1.1) = true := by rw [slots_pos (by omega)]; exact decide_eq_true r1
      rw [r1'] at k31
      have wl := byL_len (encB e ++ linkH l.2.2 e)
      rw [rlen] at wl
      have tw : List.take 62 (byL (encB e ++ linkH l.2.2 e)) = byL (encB e ++ linkH l.2.2 e) := List.take_of_length_le (by omega)
      have vl := uL_len (linkH l.2.2 e)
      rw [linkH_len] at vl
      have le1 : l.2.1.length + 1 ≤ 4294967296 := by omega
      have le2 : ¬ (l.2.1.length + 1 ≤ l.2.1.length) := by omega
      have ta : ∀ w : List PV, List.take (l.2.1.length + 1) (enL l.2.1 ++ [w]) = enL l.2.1 ++ [w] := fun w => List.take_of_length_le (by simp; omega)
      have ea : enL (l.2.1 ++ [e]) = enL l.2.1 ++ [enC e] := by simp [enL]
      have wle := allW_en l.2.1
      simp only [cond_true, moreG, loC, stR, soC, ea] at h33 h34 ⊢
      generalize ((l.1.2.1 ++ (encB e ++ linkH l.2.2 e)).length : Int) = tl at *
      generalize hw0 : (waitN l == 0) = w0 at *
      generalize waitN l = wn at *
      generalize byL (l.1.2.1 ++ (encB e ++ linkH l.2.2 e)) = b2 at *
      generalize byL (encB e ++ linkH l.2.2 e) = w at *
      generalize uL (linkH l.2.2 e) = v at *
      clear lf ms ms2 g1 g2 g3 g4 g5 g6
      obtain ⟨⟨c, D, u⟩, L, H⟩ := l
      simp only [loC] at h22 h30 h33 bl el tkb tke uh le1 le2 ta wle ⊢
      simp only [bxB, rwB, box, loC] at k31 k32
      generalize byL D = b at *
      generalize enL L = a at *
      generalize uL H = q at *
      obtain ⟨e1, e2, e3, e4, e5, e6, e7, e8, e9⟩ := e
      simp only [enC] at h29 k31 k32 ⊢
      simp only [row] at h30
      generalize hz' : List.replicate 32 (PV.i .u8 0) = zz at *
      cases w0
      · simp -implicitDefEqProofs (maxSteps := 1000000) (disch := first | omega | rfl) [m11, h22, h29, h30, k31, k32, h33, h34, hw0, bl, el, tkb, tke, uh, wl, tw, vl, le1, le2, ta, wle, hz', hzl, k_nc, KY, KV, KS, getS, getO, gS, zipN, dropW, takeW, wds, stvs, sea, seaL, refs, refsL, refsEls, refsO, isPureEls, isPures, isPure, noExt, noExts, noExtEls, cellsL, ren, renL, renEls, keepO, keepS, keysO, refsS, refsOB, cntN, headC, setS, boxO, row, putW, putB, putB1, eNl, newOs, frz, renO, noExtO, zps, zp, two32, w64, -getElem?_pos]
      · rw [show urg = true by simpa using r2]
        simp -implicitDefEqProofs (maxSteps := 1000000) (disch := first | omega | rfl) [m11, h22, h29, h30, k31, k32, h33, h34, hw0, bl, el, tkb, tke, uh, wl, tw, vl, le1, le2, ta, wle, hz', hzl, k_nc, KY, KV, KS, getS, getO, gS, zipN, dropW, takeW, wds, stvs, sea, seaL, refs, refsL, refsEls, refsO, isPureEls, isPures, isPure, noExt, noExts, noExtEls, cellsL, ren, renL, renEls, keepO, keepS, keysO, refsS, refsOB, cntN, headC, setS, boxO, row, putW, putB, putB1, eNl, newOs, frz, renO, noExtO, zps, zp, two32, w64, -getElem?_pos]
    · have hr' : (decide ((l.2.1.length : Int) < slots l.1.1) && (!(waitN l == 0) || urg)) = false := by simpa using hr
      rw [hr']
      simp only [cond_true, cond_false, loC]
      generalize hw0 : (waitN l == 0) = w0 at *
      generalize waitN l = wn at *
      generalize decide ((l.2.1.length : Int) < slots l.1.1) = x at *
      obtain ⟨⟨c, D, u⟩, L, H⟩ := l
      simp only [loC] at h22 h30 bl el tkb tke uh ⊢
      simp only [bxB, rwB, box, loC] at k31
      generalize byL D = b at *
      generalize enL L = a at *
      generalize uL H = q at *
      obtain ⟨e1, e2, e3, e4, e5, e6, e7, e8, e9⟩ := e
      simp only [enC] at h29 k31 ⊢
      simp only [row] at h30
      generalize hz' : List.replicate 32 (PV.i .u8 0) = zz at *
      cases x
      · simp -implicitDefEqProofs (maxSteps := 1000000) (disch := first | omega | rfl) [m11, m11j0, h22, h29, h30, k31, hw0, bl, el, tkb, tke, uh, hz', hzl, k_nc, KY, KV, KS, getS, getO, gS, zipN, dropW, takeW, wds, stvs, sea, seaL, refs, refsL, refsEls, refsO, isPureEls, isPures, isPure, noExt, noExts, noExtEls, cellsL, ren, renL, renEls, keepO, keepS, keysO, refsS, refsOB, cntN, headC, setS, boxO, row, putW, putB, putB1, eNl, newOs, frz, renO, noExtO, zps, zp, two32, w64, -getElem?_pos]
      · simp only [Bool.true_and, Bool.or_eq_false_iff, Bool.not_eq_false'] at hr'
        obtain ⟨rfl, rfl⟩ := hr'
        simp -implicitDefEqProofs (maxSteps := 1000000) (disch := first | omega | rfl) [m11, m11j0, h22, h29, h30, k31, hw0, bl, el, tkb, tke, uh, hz', hzl, k_nc, KY, KV, KS, getS, getO, gS, zipN, dropW, takeW, wds, stvs, sea, seaL, refs, refsL, refsEls, refsO, isPureEls, isPures, isPure, noExt, noExts, noExtEls, cellsL, ren, renL, renEls, keepO, keepS, keysO, refsS, refsOB, cntN, headC, setS, boxO, row, putW, putB, putB1, eNl, newOs, frz, renO, noExtO, zps, zp, two32, w64, -getElem?_pos]
  · have hmm' : (mayG l && mayE e) = false := by simpa using hmm
    rw [hmm']
    simp only [cond_false, loC]
    generalize waitN l = wn at *
    generalize decide ((l.2.1.length : Int) < slots l.1.1) = x at *
    generalize mayG l = m1 at *
    generalize mayE e = m2 at *
    obtain ⟨⟨c, D, u⟩, L, H⟩ := l
    simp only [loC] at h22 h30 bl el tkb tke uh ⊢
    simp only [bxB, rwB, box, loC] at k31
    generalize byL D = b at *
    generalize enL L = a at *
    generalize uL H = q at *
    obtain ⟨e1, e2, e3, e4, e5, e6, e7, e8, e9⟩ := e
    simp only [enC] at h29 k31 ⊢
    simp only [row] at h30
    generalize hz' : List.replicate 32 (PV.i .u8 0) = zz at *
    cases m1
    · simp -implicitDefEqProofs (maxSteps := 1000000) (disch := first | omega | rfl) [m11, m11j0, h22, h30, k31, bl, el, tkb, tke, uh, hz', hzl, k_nc, KY, KV, KS, getS, getO, gS, zipN, dropW, takeW, wds, stvs, sea, seaL, refs, refsL, refsEls, refsO, isPureEls, isPures, isPure, noExt, noExts, noExtEls, cellsL, ren, renL, renEls, keepO, keepS, keysO, refsS, refsOB, cntN, headC, setS, boxO, row, putW, putB, putB1, eNl, newOs, frz, renO, noExtO, zps, zp, two32, w64, -getElem?_pos]
    · rw [show m2 = false by simpa using hmm'] at h29
      simp -implicitDefEqProofs (maxSteps := 1000000) (disch := first | omega | rfl) [m11, m11j0, h22, h29, h30, k31, bl, el, tkb, tke, uh, hz', hzl, k_nc, KY, KV, KS, getS, getO, gS, zipN, dropW, takeW, wds, stvs, sea, seaL, refs, refsL, refsEls, refsO, isPureEls, isPures, isPure, noExt, noExts, noExtEls, cellsL, ren, renL, renEls, keepO, keepS, keysO, refsS, refsOB, cntN, headC, setS, boxO, row, putW, putB, putB1, eNl, newOs, frz, renO, noExtO, zps, zp, two32, w64, -getElem?_pos]
end
section
noncomputable def tornS (l : Lo) (e : En) (k : Int) : So :=
  cond (mayG l && (mayE e && decide ((l.2.1.length : Int) < slots l.1.1))) (crS (l.1.1, l.1.2.1 ++ (encB e ++ linkH l.2.2 e), l.1.2.2) k) l.1
set_option maxHeartbeats 32000000 in
theorem V19t (M d : Nat) (l : Lo) (e : En) (k : Int) (hc : okC64 l.1.1) (hD : l.1.2.1.length ≤ 40000) (hl : l.2.1.length ≤ 264) (ho : ∀ e ∈ l.2.1, okE e) (hoe : okE e) (hh : l.2.2.length = 32) :
    sem tab (M + 1000) (d + 12) 19 [.agg (loC false l), .agg (enC e), .i .i64 k] [] = some (.agg (soC true (tornS l e k)), []) := by
  rw [sem_succ tab (M + 1000) (d + 11) 19 m19 rfl]
  have h22 := V22g M (d + 1) l hl ho hh
  have h29 := V61 (M + 1000) (d + 9) e
  have h30 := V30o (M + 1000) (d + 9) l (by omega) (by omega)
  have h31 := V31b (M + 1000) (d + 9) l.1.1 l.1.2.2 l.1.2.1.length l.2.1.length (uL l.2.2) (byL l.1.2.1) (enL l.2.1) hc (by omega)
  have k31 := k_ca31b (sem tab (M + 1000) (d + 11)) [(200, bxB l.1.1 l.1.2.2 184 185 l.1.2.1.length l.2.1.length (uL l.2.2)), (184, rwB (byL l.1.2.1) 1), (185, rwB (enL l.2.1) 9), (112, box [.i .i64 0, .e true, .i .i64 0] 3), (96, box (enC e) 9), (88, box (loC false l) 36)] 224 31 l.1.1 l.1.2.2 _ _ l.1.2.1.length l.2.1.length (uL l.2.2) (byL l.1.2.1) (enL l.2.1) rfl rfl rfl h31
  clear h31
  have hzl : (List.replicate 32 (PV.i IntKind.u8 0)).length = 32 := rfl
  have bl := byL_len l.1.2.1
  have el := enL_len l.2.1
  have tkb : List.take l.1.2.1.length (byL l.1.2.1) = byL l.1.2.1 := List.take_of_length_le (by omega)
  have tke : List.take l.2.1.length (enL l.2.1) = enL l.2.1 := List.take_of_length_le (by omega)
  have uh := uL_len l.2.2
  rw [hh] at uh
  unfold tornS
  by_cases hmm : (mayG l && (mayE e && decide ((l.2.1.length : Int) < slots l.1.1))) = true
  · have hmm' := hmm
    simp only [Bool.and_eq_true] at hmm'
    obtain ⟨hm, hme, hr⟩ := hmm'
    rw [hmm, cond_true]
    rw [hm] at h22
    rw [hme] at h29
    rw [hr] at k31
    have r1 := of_decide_eq_true hr
    obtain ⟨g1, g2, g3, g4, g5, g6⟩ := mayG_spec hm
    have h32 := V32b M (d + 2) l.1.1 l.1.2.2 l.1.2.1.length l.2.1.length l.2.2 (byL l.1.2.1) (enL l.2.1) e hh hoe hme
    have k32 := k_ca32b (sem tab (M + 1000) (d + 11)) ((200, bxB l.1.1 l.1.2.2 184 185 l.1.2.1.length l.2.1.length (uL l.2.2)) :: (184, rwB (byL l.1.2.1) 1) :: (185, rwB (enL l.2.1) 9) :: [(200, bxB l.1.1 l.1.2.2 184 185 l.1.2.1.length l.2.1.length (uL l.2.2)), (184, rwB (byL l.1.2.1) 1), (185, rwB (enL l.2.1) 9), (112, box [.i .i64 0, .e true, .i .i64 0] 3), (96, box (enC e) 9), (88, box (loC false l) 36)]) 408 32 l.1.1 l.1.2.2 l.1.2.1.length l.2.1.length (uL l.2.2) _ (byL l.1.2.1) (enL l.2.1) _ e rfl rfl rfl rfl h32
    clear h32
    have h33 := V33w M (d + 6) l.1 (encB e ++ linkH l.2.2 e) (by omega) (by simp [encB_len, linkH_len])
    have rlen : (encB e ++ linkH l.2.2 e).length = 62 := by simp [encB_len, linkH_len]
    have ms := g2
    simp only [mayS, Bool.and_eq_true, decide_eq_true_eq] at ms
    rw [slots_pos (by omega)] at r1
    have lf : leftS l.1 = l.1.1 - l.1.2.1.length := by rw [leftS, g2]; rfl
    rw [outW, g2, decide_eq_false (by rw [lf, rlen]; omega)] at h33
    simp only [cond_true, cond_false] at h33
    have h49 := V49c (M + 1000) (d + 6) (l.1.1, l.1.2.1 ++ (encB e ++ linkH l.2.2 e), l.1.2.2) k (by simp only [List.length_append, encB_len, linkH_len]; omega)
    have wl := byL_len (encB e ++ linkH l.2.2 e)
    rw [rlen] at wl
    have tw : List.take 62 (byL (encB e ++ linkH l.2.2 e)) = byL (encB e ++ linkH l.2.2 e) := List.take_of_length_le (by omega)
    have vl := uL_len (linkH l.2.2 e)
    rw [linkH_len] at vl
    generalize crS (l.1.1, l.1.2.1 ++ (encB e ++ linkH l.2.2 e), l.1.2.2) k = R at *
    simp only [loC, stR, soC] at h33 h49 ⊢
    generalize byL (l.1.2.1 ++ (encB e ++ linkH l.2.2 e)) = b2 at *
    generalize byL (encB e ++ linkH l.2.2 e) = w at *
    generalize uL (linkH l.2.2 e) = v at *
    generalize max 0 (slots l.1.1 - 4 - (l.2.1.length : Int)) = wn at *
    clear lf ms g1 g2 g3 g4 g5 g6
    obtain ⟨⟨c, D, u⟩, L, H⟩ := l
    obtain ⟨c', D', u'⟩ := R
    simp only [loC] at h22 h30 h33 h49 bl el tkb tke uh ⊢
    simp only [bxB, rwB, box, loC] at k31 k32
    generalize byL D = b at *
    generalize byL D' = b' at *
    generalize enL L = a at *
    generalize uL H = q at *
    obtain ⟨e1, e2, e3, e4, e5, e6, e7, e8, e9⟩ := e
    simp only [enC] at h29 k31 k32 ⊢
    simp only [row] at h30
    generalize hz' : List.replicate 32 (PV.i .u8 0) = zz at *
    simp -implicitDefEqProofs (maxSteps := 1000000) (disch := first | omega | rfl) [m19, h22, h29, h30, k31, k32, h33, h49, bl, el, tkb, tke, uh, wl, tw, vl, hz', hzl, k_nc, KY, KV, KS, getS, getO, gS, zipN, dropW, takeW, wds, stvs, sea, seaL, refs, refsL, refsEls, refsO, isPureEls, isPures, isPure, noExt, noExts, noExtEls, cellsL, ren, renL, renEls, keepO, keepS, keysO, refsS, refsOB, cntN, headC, setS, boxO, row, putW, putB, putB1, eNl, newOs, frz, renO, noExtO, zps, zp, two32, w64, -getElem?_pos]
  · have hmm' : (mayG l && (mayE e && decide ((l.2.1.length : Int) < slots l.1.1))) = false := by simpa using hmm
    rw [hmm', cond_false]
    simp only [loC, soC]
    generalize max 0 (slots l.1.1 - 4 - (l.2.1.length : Int)) = wn at *
    generalize decide ((l.2.1.length : Int) < slots l.1.1) = x at *
    generalize mayG l = m1 at *
    generalize mayE e = m2 at *
    obtain ⟨⟨c, D, u⟩, L, H⟩ := l
    simp only [loC] at h22 h30 bl el tkb tke uh ⊢
    simp only [bxB, rwB, box, loC] at k31
    generalize byL D = b at *
    generalize enL L = a at *
    generalize uL H = q at *
    obtain ⟨e1, e2, e3, e4, e5, e6, e7, e8, e9⟩ := e
    simp only [enC] at h29 k31 ⊢
    simp only [row] at h30
    generalize hz' : List.replicate 32 (PV.i .u8 0) = zz at *
    cases m1
    · simp -implicitDefEqProofs (maxSteps := 1000000) (disch := first | omega | rfl) [m19, h22, h30, k31, bl, el, tkb, tke, uh, hz', hzl, k_nc, KY, KV, KS, getS, getO, gS, zipN, dropW, takeW, wds, stvs, sea, seaL, refs, refsL, refsEls, refsO, isPureEls, isPures, isPure, noExt, noExts, noExtEls, cellsL, ren, renL, renEls, keepO, keepS, keysO, refsS, refsOB, cntN, headC, setS, boxO, row, putW, putB, putB1, eNl, newOs, frz, renO, noExtO, zps, zp, two32, w64, -getElem?_pos]
    · cases m2
      · simp -implicitDefEqProofs (maxSteps := 1000000) (disch := first | omega | rfl) [m19, h22, h29, h30, k31, bl, el, tkb, tke, uh, hz', hzl, k_nc, KY, KV, KS, getS, getO, gS, zipN, dropW, takeW, wds, stvs, sea, seaL, refs, refsL, refsEls, refsO, isPureEls, isPures, isPure, noExt, noExts, noExtEls, cellsL, ren, renL, renEls, keepO, keepS, keysO, refsS, refsOB, cntN, headC, setS, boxO, row, putW, putB, putB1, eNl, newOs, frz, renO, noExtO, zps, zp, two32, w64, -getElem?_pos]
      · rw [show x = false by simpa using hmm'] at k31
        simp -implicitDefEqProofs (maxSteps := 1000000) (disch := first | omega | rfl) [m19, h22, h29, h30, k31, bl, el, tkb, tke, uh, hz', hzl, k_nc, KY, KV, KS, getS, getO, gS, zipN, dropW, takeW, wds, stvs, sea, seaL, refs, refsL, refsEls, refsO, isPureEls, isPures, isPure, noExt, noExts, noExtEls, cellsL, ren, renL, renEls, keepO, keepS, keysO, refsS, refsOB, cntN, headC, setS, boxO, row, putW, putB, putB1, eNl, newOs, frz, renO, noExtO, zps, zp, two32, w64, -getElem?_pos]
theorem V10f (N d : Nat) (l : Lo) : sem tab N (d + 1) 10 [.agg (loC false l)] [] = some (.b (decide ((l.2.1.length : Int) ≤ 30) && decide ((l.1.2.1.length : Int) ≤ 2500)), []) := by
  rw [sem_succ tab N d 10 m10 rfl]
  obtain ⟨⟨c, D, u⟩, L, H⟩ := l
  have bl := byL_len D
  have el := enL_len L
  simp only [loC]
  rw [← bl, ← el]
  generalize byL D = b at *
  generalize enL L = a at *
  generalize uL H = q at *
  by_cases h1 : (a.length : Int) ≤ 30
  · by_cases h2 : (b.length : Int) ≤ 2500 <;> simp -implicitDefEqProofs (maxSteps := 1000000) (disch := first | omega | rfl) [m10, h1, h2, box, KS, getS, getO, gS, zipN, dropW, takeW, wds, stvs, sea, seaL, refs, refsL, refsEls, refsO, isPureEls, isPures, isPure, noExt, noExts, noExtEls, cellsL, ren, renL, renEls, keepO, keepS, keysO, refsS, refsOB, cntN, headC, setS, boxO, row, putW, putB, putB1, eNl, newOs, frz, renO, noExtO, zps, zp, two32, w64, -getElem?_pos]
  · simp -implicitDefEqProofs (maxSteps := 1000000) (disch := first | omega | rfl) [m10, h1, box, KS, getS, getO, gS, zipN, dropW, takeW, wds, stvs, sea, seaL, refs, refsL, refsEls, refsO, isPureEls, isPures, isPure, noExt, noExts, noExtEls, cellsL, ren, renL, renEls, keepO, keepS, keysO, refsS, refsOB, cntN, headC, setS, boxO, row, putW, putB, putB1, eNl, newOs, frz, renO, noExtO, zps, zp, two32, w64, -getElem?_pos]
end
section
/-- The log of entries. -/
noncomputable def gL (c : Int) (L : List En) : Lo := ((c, recL h0 L, ((62 * L.length : Nat) : Int)), L, hdL h0 L)
def okG (c : Int) (L : List En) : Prop := L.all mayE = true ∧ (∀ e ∈ L, okE e) ∧ 0 ≤ c ∧ c ≤ 16384 ∧ ((62 * L.length : Nat) : Int) ≤ c
theorem okG_len {c : Int} {L : List En} (h : okG c L) : L.length ≤ 264 := by obtain ⟨_, _, _, h1, h2⟩ := h; omega
theorem mayS_gL {c : Int} {L : List En} (h : okG c L) : mayS (gL c L).1 = true := by
  obtain ⟨h1, h2, h3, h4, h5⟩ := h
  have e : ((recL h0 L).length : Int) = ((62 * L.length : Nat) : Int) := by rw [recL_len]
  have a1 : decide ((0 : Int) ≤ c) = true := decide_eq_true h3
  have a2 : decide (c ≤ (16384 : Int)) = true := decide_eq_true h4
  have a3 : decide (((recL h0 L).length : Int) ≤ c) = true := decide_eq_true (by rw [e]; exact h5)
  have a4 : decide ((0 : Int) ≤ ((62 * L.length : Nat) : Int)) = true := decide_eq_true (by omega)
  have a5 : decide (((62 * L.length : Nat) : Int) ≤ ((recL h0 L).length : Int)) = true := decide_eq_true (by rw [e]; exact Int.le_refl _)
  change (decide ((0 : Int) ≤ c) && (decide (c ≤ (16384 : Int)) && (decide (((recL h0 L).length : Int) ≤ c) && (decide ((0 : Int) ≤ ((62 * L.length : Nat) : Int)) && decide (((62 * L.length : Nat) : Int) ≤ ((recL h0 L).length : Int)))))) = true
  rw [a1, a2, a3, a4, a5]; rfl
theorem mayG_gL {c : Int} {L : List En} (h : okG c L) : mayG (gL c L) = true := by
  have hs := mayS_gL h
  obtain ⟨h1, h2, h3, h4, h5⟩ := h
  unfold mayG
  rw [hs]
  simp only [gL, h1, recL_len, BEq.rfl, decide_true, Bool.and_self]
theorem mayG_eq {l : Lo} (h : mayG l = true) (hr : byR l.1.2.1) (ho : ∀ e ∈ l.2.1, okE e) : l = gL l.1.1 l.2.1 ∧ okG l.1.1 l.2.1 := by
  obtain ⟨g1, g2, g3, g4, g5, g6⟩ := mayG_spec h
  have e1 := chars_injV _ _ (recL_R l.2.1 h0 h0_R) hr g4
  have ms := g2
  simp only [mayS, Bool.and_eq_true, decide_eq_true_eq] at ms
  refine ⟨?_, g1, ho, by omega, by omega, by rw [← g6]; omega⟩
  obtain ⟨⟨c, D, u⟩, L, H⟩ := l
  simp only [gL] at *
  subst e1
  subst g5
  rw [g3, recL_len]
theorem gL_R (c : Int) (L : List En) : byR (gL c L).1.2.1 := recL_R L h0 h0_R
theorem gL_hd (c : Int) (L : List En) : (gL c L).2.2.length = 32 := hdL_len L h0 h0_len
theorem sameL_self (L : List En) : sameL L L = true := (sameL_iff L L).2 rfl
theorem sameG_self (l : Lo) : sameG l l = true := by simp [sameG, sameS, sameL_self]
theorem recL_app1 (L : List En) (e : En) (h : List Int) : recL h (L ++ [e]) = recL h L ++ (encB e ++ linkH (hdL h L) e) := by
  induction L generalizing h with
  | nil => simp [recL, hdL]
  | cons x r ih => simp only [List.cons_append, recL, hdL, ih, List.append_assoc]
theorem hdL_app1 (L : List En) (e : En) (h : List Int) : hdL h (L ++ [e]) = linkH (hdL h L) e := by
  induction L generalizing h with
  | nil => simp [hdL]
  | cons x r ih => simp only [List.cons_append, hdL, ih]
theorem moreG_gL (c : Int) (L : List En) (e : En) : moreG (gL c L) e = gL c (L ++ [e]) := by
  simp only [moreG, gL]
  rw [← recL_app1, ← hdL_app1, recL_len]
theorem okG_more {c : Int} {L : List En} {e : En} (h : okG c L) (hm : mayE e = true) (ho : okE e) (hr : (L.length : Int) < slots c) : okG c (L ++ [e]) := by
  obtain ⟨h1, h2, h3, h4, h5⟩ := h
  rw [slots_pos h3] at hr
  refine ⟨by simp [h1, hm], fun x hx => (List.mem_append.1 hx).elim (h2 x) (fun hx => by simp at hx; subst hx; exact ho), h3, h4, ?_⟩
  simp only [List.length_append, List.length_singleton]
  omega
theorem addR_gL {c : Int} {L : List En} (h : okG c L) (e : En) (urg : Bool) : addR (gL c L) e urg = cond (mayE e) (cond (decide ((L.length : Int) < slots c) && (!(waitN (gL c L) == 0) || urg)) (gL c (L ++ [e]), 0) (gL c L, 12)) (gL c L, 1) := by
  unfold addR
  rw [mayG_gL h, Bool.true_and, moreG_gL]
  rfl
theorem openL_rec {c u : Int} {L : List En} (r : List Int) (h : okG c L) (hr : r.length < 62) : openL (c, recL h0 L ++ r, u) = gL c L := by
  obtain ⟨a1, a2, _⟩ := rd_recs L r h.1 h.2.1 (okG_len h) hr
  simp only [openL, gL]
  rw [a1, a2]
  have l := recL_len L h0
  rw [List.take_append_of_le_length (by omega), List.take_of_length_le (by omega)]
theorem openL_gL {c : Int} {L : List En} (h : okG c L) : openL (gL c L).1 = gL c L := by
  have := openL_rec (u := ((62 * L.length : Nat) : Int)) [] h (by decide)
  rw [List.append_nil] at this
  exact this
/-- What is opened of any store. -/
theorem openL_eq {s : So} (hm : mayS s = true) (hr : byR s.2.1) : openL s = gL s.1 (rdL s.2.1) ∧ okG s.1 (rdL s.2.1) ∧ s.2.1.take (62 * (rdL s.2.1).length) = recL h0 (rdL s.2.1) ∧ hdL h0 (rdL s.2.1) = rdH s.2.1 := by
  obtain ⟨i1, i2, i3, i4, i5, _⟩ := rd_spec 264 h0 s.2.1 hr
  rw [show goodS (stepsL 264 h0 s.2.1) = rdS s.2.1 from rfl] at i1 i2 i3 i4 i5
  rw [show (rdS s.2.1).map (·.1) = rdL s.2.1 from rfl] at i1 i2 i3 i5
  rw [show headS h0 (rdS s.2.1) = rdH s.2.1 from rfl] at i3
  have ln : (rdL s.2.1).length = (rdS s.2.1).length := by simp [rdL]
  rw [← ln] at i4 i5
  have e1 := chars_injV _ _ (recL_R _ h0 h0_R) (byR_take _ hr) i5
  simp only [mayS, Bool.and_eq_true, decide_eq_true_eq] at hm
  refine ⟨?_, ⟨i1, i2, by omega, by omega, by omega⟩, e1.symm, i3⟩
  simp only [openL, gL]
  rw [← e1, i3]
end
section
set_option maxHeartbeats 16000000 in
theorem awakeA (M d : Nat) : sem tab (M + 1000) (d + 13) 9 [] [] = some (.b true, []) := by
  rw [sem_succ tab (M + 1000) (d + 12) 9 m9 rfl]
  have o0 : okG 400 [] := ⟨rfl, (fun e he => by cases he), by decide, by decide, by decide⟩
  have w0 : waitN (gL 400 []) = 2 := by show max 0 (slots 400 - 4 - ((0 : Nat) : Int)) = 2; decide
  have oe : okE e1E := ⟨by decide, by decide, by decide, by decide⟩
  have oz : okE zeE := ⟨by decide, by decide, by decide, by decide⟩
  have o1 : okG 400 [e1E] := okG_more (L := []) o0 (by decide) oe (by decide)
  have w1 : waitN (gL 400 [e1E]) = 1 := by show max 0 (slots 400 - 4 - ((1 : Nat) : Int)) = 1; decide
  have h15 := V15n M (d + 3) 400
  rw [show mayS (400, [], 0) = true by decide, cond_true] at h15
  have g0 : (((400, [], 0), [], h0) : Lo) = gL 400 [] := rfl
  rw [g0] at h15
  have h11 := V11a M d (gL 400 []) e1E false (by simp only [gL, okC64]; omega) (by simp [gL, recL]) (by simp [gL]) o0.2.1 oe (gL_hd _ _)
  rw [addR_gL o0, show mayE e1E = true by decide, show (decide ((([] : List En).length : Int) < slots 400) && (!(waitN (gL 400 []) == 0) || false)) = true by rw [w0]; decide, cond_true, cond_true] at h11
  rw [show ([] : List En) ++ [e1E] = [e1E] from rfl] at h11
  have h13 := V13o M (d + 1) (gL 400 [e1E]).1 (by simp only [gL, recL_len]; simp) (gL_R _ _)
  rw [mayS_gL o1, cond_true, openL_gL o1] at h13
  have h24 := V24r M (d + 1) (gL 400 []) (by simp only [gL, okC64]; omega) (by simp [gL]) o0.2.1 (gL_hd _ _)
  rw [roomL, mayG_gL o0, cond_true, w0] at h24
  have h24' := V24r M (d + 1) (gL 400 [e1E]) (by simp only [gL, okC64]; omega) (by simp [gL]) o1.2.1 (gL_hd _ _)
  rw [roomL, mayG_gL o1, cond_true, w1] at h24'
  have h23 := V23g M (d + 9) (gL 400 [e1E]) (gL 400 [e1E]) (by simp [gL]) (gL_hd _ _) (gL_hd _ _)
  rw [sameG_self] at h23
  have h22 := V22g M (d + 2) (gL 400 [e1E]) (by simp [gL]) o1.2.1 (gL_hd _ _)
  rw [mayG_gL o1] at h22
  have h19 := V19t M d (gL 400 []) zeE 9 (by simp only [gL, okC64]; omega) (by simp [gL, recL]) (by simp [gL]) o0.2.1 oz (gL_hd _ _)
  have ht : (tornS (gL 400 []) zeE 9).2.1.length = 9 := by
    have rl : (encB zeE ++ linkH (gL 400 []).2.2 zeE).length = 62 := by simp [encB_len, linkH_len]
    rw [tornS, mayG_gL o0, show mayE zeE = true by decide, show decide (((gL 400 []).2.1.length : Int) < slots (gL 400 []).1.1) = true by simp [gL, slots], Bool.true_and, Bool.true_and, cond_true]
    have e0 : (gL 400 []).1.2.1 = [] := rfl
    have e2 : (gL 400 []).1.2.2 = 0 := rfl
    have e3 : (gL 400 []).1.1 = 400 := rfl
    rw [e0, e2, e3, List.nil_append, crS]
    have ms : mayS (400, encB zeE ++ linkH (gL 400 []).2.2 zeE, 0) = true := by
      simp only [mayS, rl]; decide
    rw [ms, cond_true]
    simp only [rl, List.length_take]
    decide
  have btl := byL_len (tornS (gL 400 []) zeE 9).2.1
  rw [ht] at btl
  have el1 := enL_len (gL 400 [e1E]).2.1
  rw [show (gL 400 [e1E]).2.1.length = 1 from rfl] at el1
  have ul0 := uL_len (gL 400 []).2.2
  rw [gL_hd] at ul0
  have ul1 := uL_len (gL 400 [e1E]).2.2
  rw [gL_hd] at ul1
  generalize tornS (gL 400 []) zeE 9 = T at *
  generalize gL 400 [e1E] = G1 at *
  generalize gL 400 [] = G0 at *
  obtain ⟨⟨c0, D0, u0⟩, L0, H0⟩ := G0
  obtain ⟨⟨c1, D1, u1⟩, L1, H1⟩ := G1
  obtain ⟨cT, DT, uT⟩ := T
  simp only [loR, loC, soC, enC, e1E, zeE] at h11 h13 h15 h19 h22 h23 h24 h24' btl el1 ul0 ul1
  generalize byL D0 = b0 at *
  generalize byL D1 = b1 at *
  generalize byL DT = bT at *
  generalize enL L0 = a0 at *
  generalize enL L1 = a1 at *
  generalize uL H0 = q0 at *
  generalize uL H1 = q1 at *
  have hzl : (List.replicate 32 (PV.i IntKind.u8 0)).length = 32 := rfl
  generalize hz' : List.replicate 32 (PV.i .u8 0) = zz at *
  simp -implicitDefEqProofs (maxSteps := 1000000) (disch := first | omega | rfl) [m9, h11, h13, h15, h19, h22, h23, h24, h24', btl, el1, ul0, ul1, hz', hzl, fV, box, KY, KV, KS, getS, getO, gS, zipN, dropW, takeW, wds, stvs, sea, seaL, refs, refsL, refsEls, refsO, isPureEls, isPures, isPure, noExt, noExts, noExtEls, cellsL, ren, renL, renEls, keepO, keepS, keysO, refsS, refsOB, cntN, headC, setS, boxO, row, putW, putB, putB1, eNl, newOs, frz, renO, noExtO, zps, zp, two32, w64, -getElem?_pos]
end
end Go.Proofs.YtmhpkdcnhgmblaaDoor
