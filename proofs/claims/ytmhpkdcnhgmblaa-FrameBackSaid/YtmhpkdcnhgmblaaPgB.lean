/- Plain lemmas, part 2. -/
import Derived.Test.YtmhpkdcnhgmblaaPgA
set_option linter.all false
set_option linter.unusedSimpArgs false
set_option linter.unusedVariables false
namespace Go.Proofs.Ytmhpkdcnhgmblaa
open Go
section
attribute [local congr] bnd_cg bndO_cg br_cg
theorem scal_by (ys : List Int) : scalEls (byL ys) = true := by
  induction ys with
  | nil => rfl
  | cons x r ih => simpa [byL, scalEls, scal] using ih
theorem flat_take (ys : List Int) (n : Nat) : ((byL ys).take n).flatten = uL (ys.take n) := by
  simp only [byL, uL, ← List.map_take]
  induction ys.take n with
  | nil => rfl
  | cons x r ih => simp only [List.map_cons, List.flatten_cons, ih]; rfl
theorem cpy_tag (ob : OB) (h : Fra) (hz : h.tag = z32) (ys : List Int) (ho : getO ob 104 = some (fbox h)) : cpy ob 1 (.bs 104 8 0 32) (.l false (byL ys)) = some (.i .i64 ((min ys.length 32 : Nat) : Int), [(104, fbox { h with tag := ys.take 32 ++ z32.drop (min ys.length 32) })]) := by
  obtain ⟨a1, a2, a3, a4, a5, a6, a7, a8, a9⟩ := h
  simp only at hz
  subst hz
  have hl := byL_len ys
  have e1 : ys.take (min ys.length 32) = ys.take 32 := by
    rcases Nat.le_total ys.length 32 with h | h
    · rw [Nat.min_eq_left h, List.take_of_length_le (Nat.le_refl _), List.take_of_length_le h]
    · rw [Nat.min_eq_right h]
  have e2 : uL (ys.take 32 ++ z32.drop (min ys.length 32)) = uL (ys.take 32) ++ (uL z32).drop (min ys.length 32) := by simp [uL]
  have hz : (uL z32).length = 32 := by rw [uL_len]; rfl
  have hs := scal_by ys
  have hf := flat_take ys (min ys.length 32)
  rw [e1] at hf
  rw [← hl] at hf e2 ⊢
  simp only [fbox, frC, box, e2] at ho ⊢
  generalize uL (ys.take 32) = t at *
  generalize uL z32 = z at *
  generalize byL ys = b at *
  simp [cpy, cont, contL, cpC, cpX, cpyB, cpyE, cpyD, ho, dropW, takeW, wd, hs, hf, hz]
def ob11x (S : List (Nat × Obj')) (h : Fra) : OB := (80, fbox zeF) :: (104, fbox h) :: S
def sl11x (r : PV) (b : List (List PV)) (t : Bool) (at' : Int) (n : Int) : SL := [(0, .l false b), (2, .p 80 0 0 0 none), (5, .p 104 0 0 0 none), (7, .b t), (8, .i .i64 at'), (42, r), (43, .i .i64 n), (44, .i .i64 n)]
def errR (e : Int) : Option R := some (.tup [.agg (frC zeF), .i .i64 e], [])
def outP (b : Bool) (p : List Int) : Option R := cond b (some (.tup [.sl 0 0 0 p.length, .b true], [row (byL p) 1 true])) (some (.tup [.sl 0 0 0 0, .b false], [row [] 1 true]))
set_option maxHeartbeats 8000000 in
/-- Without a tag. -/
theorem e11u (Φ : Sem') (N : Nat) (g : SL → OB → Option R) (bs p : List Int) (S : List (Nat × Obj')) (r : PV) (h : Fra) (pl : Bool) (n at' : Int) (hS : getO S 736 = none)
    (H1 : Φ 10 [.agg (frC h)] [] = outP pl p) (H2 : Φ 24 [.l false (byL p), .l false (byL bs)] [] = some (.b (decide (p = bs)), [])) :
    m11b0 Φ N [] g (sl11x r (byL bs) false at' n) (ob11x S h) = cond (pl && ((at' == (bs.length : Int)) && decide (p = bs))) (some (.tup [.agg (frC h), .i .i64 0], [])) (errR 3) := by
  have hl := byL_len bs
  have hp := byL_len p
  have hu := uz32
  have lt : ¬ n < n := Int.lt_irrefl n
  unfold outP at H1
  unfold errR
  rw [← hl]
  rw [← hp] at H1
  have tp : List.take (byL p).length (byL p) = byL p := List.take_length
  generalize decide (p = bs) = e at *
  generalize byL p = c at *
  generalize byL bs = b at *
  obtain ⟨a1, a2, a3, a4, a5, a6, a7, a8, a9⟩ := h
  simp only [sl11x, ob11x, fbox, frC, zeF, box, row] at *
  generalize uL a9 = q at *
  generalize uL z32 = z at *
  subst hu
  cases pl
  · simp only [cond_false] at H1
    simp -implicitDefEqProofs (maxSteps := 1000000) (disch := first | omega | rfl) [m11b0, hS, H1, lt, KF, KS, getS, getO, gS, zipN, dropW, takeW, wds, stvs, sea, seaL, refs, refsL, refsEls, refsO, isPureEls, isPures, isPure, noExt, noExts, noExtEls, cellsL, ren, renL, renEls, keepO, keepS, keysO, refsS, refsOB, headC, setS, boxO, row, putW, putB, putB1, eNl, newOs, frz, renO, noExtO, zps, zp, two32, w64, -getElem?_pos, k_cnt, k_cnt0]
  · simp only [cond_true] at H1
    by_cases ha : at' = (b.length : Int)
    · have ha1 : (at' == (b.length : Int)) = true := by simp [ha]
      have ha2 : (at' != (b.length : Int)) = false := by simp [ha]
      cases e <;> simp -implicitDefEqProofs (maxSteps := 1000000) (disch := first | omega | rfl) [m11b0, hS, H1, H2, ha1, ha2, tp, lt, KF, KS, getS, getO, gS, zipN, dropW, takeW, wds, stvs, sea, seaL, refs, refsL, refsEls, refsO, isPureEls, isPures, isPure, noExt, noExts, noExtEls, cellsL, ren, renL, renEls, keepO, keepS, keysO, refsS, refsOB, headC, setS, boxO, row, putW, putB, putB1, eNl, newOs, frz, renO, noExtO, zps, zp, two32, w64, -getElem?_pos, k_cnt, k_cnt0]
    · have ha1 : (at' == (b.length : Int)) = false := by simp [ha]
      have ha2 : (at' != (b.length : Int)) = true := by simp [ha]
      simp -implicitDefEqProofs (maxSteps := 1000000) (disch := first | omega | rfl) [m11b0, hS, H1, ha1, ha2, tp, lt, KF, KS, getS, getO, gS, zipN, dropW, takeW, wds, stvs, sea, seaL, refs, refsL, refsEls, refsO, isPureEls, isPures, isPure, noExt, noExts, noExtEls, cellsL, ren, renL, renEls, keepO, keepS, keysO, refsS, refsOB, headC, setS, boxO, row, putW, putB, putB1, eNl, newOs, frz, renO, noExtO, zps, zp, two32, w64, -getElem?_pos, k_cnt, k_cnt0]
theorem slc_at (ob : OB) (b : List (List PV)) (i : Nat) (hw : allW 1 b = true) (hi : i ≤ b.length) : slc ob (.slice 1) (.l false b) (some (.i .i64 i)) none none = some (.l false (b.drop i), []) := by
  have t : List.take b.length b = b := List.take_length
  simp [slc, hw, slL, optI, natI, hi, t]
theorem drop_by (ys : List Int) (i : Nat) : (byL ys).drop i = byL (ys.drop i) := by simp [byL]
set_option maxHeartbeats 8000000 in
/-- With a tag. -/
theorem e11t (Φ : Sem') (N : Nat) (g : SL → OB → Option R) (bs p : List Int) (S : List (Nat × Obj')) (r : PV) (h : Fra) (pl : Bool) (n : Int) (i : Nat) (hz : h.tag = z32) (hi : i ≤ bs.length) (hb : bs.length < 1000000) (hS : getO S 736 = none)
    (H1 : Φ 10 [.agg (frC { h with tag := tgAt bs i })] [] = outP pl p) (H2 : Φ 24 [.l false (byL p), .l false (byL bs)] [] = some (.b (decide (p = bs)), [])) :
    m11b0 Φ N [] g (sl11x r (byL bs) true i n) (ob11x S h) = cond (pl && ((((i + min (bs.length - i) 32 : Nat) : Int) == (bs.length : Int)) && decide (p = bs))) (some (.tup [.agg (frC { h with tag := tgAt bs i }), .i .i64 0], [])) (errR 3) := by
  have hl := byL_len bs
  have hp := byL_len p
  have hu := uz32
  have lt : ¬ n < n := Int.lt_irrefl n
  have hc := cpy_tag ((80, fbox zeF) :: (104, fbox h) :: S) h hz (bs.drop i) rfl
  have hs := fun ob => slc_at ob (byL bs) i (allW_by bs) (by omega)
  have hd := drop_by bs i
  rw [List.length_drop] at hc
  have ht : { h with tag := (bs.drop i).take 32 ++ z32.drop (min (bs.length - i) 32) } = ({ h with tag := tgAt bs i } : Fra) := rfl
  rw [ht] at hc
  rw [hd] at hs
  unfold outP at H1
  unfold errR
  have wa : IntKind.i64.wrap ((i : Int) + ((min (bs.length - i) 32 : Nat) : Int)) = ((i + min (bs.length - i) 32 : Nat) : Int) := by rw [IntKind.wrap_i64]; omega
  generalize hm : ((min (bs.length - i) 32 : Nat) : Int) = mm at *
  generalize ((i + min (bs.length - i) 32 : Nat) : Int) = at' at *
  rw [← hl]
  rw [← hp] at H1
  have tp : List.take (byL p).length (byL p) = byL p := List.take_length
  generalize decide (p = bs) = e at *
  generalize byL p = c at *
  generalize byL (bs.drop i) = b' at *
  generalize byL bs = b at *
  obtain ⟨a1, a2, a3, a4, a5, a6, a7, a8, a9⟩ := h
  simp only at hz
  subst hz
  simp only [sl11x, ob11x, fbox, frC, zeF, box, row] at *
  generalize uL (tgAt bs i) = q at *
  generalize uL z32 = z at *
  have hu' := hu.symm
  clear ht hm hd
  cases pl
  · simp only [cond_false] at H1
    simp -implicitDefEqProofs (maxSteps := 1000000) (disch := first | omega | rfl) [m11b0, hS, hu', H1, hc, hs, wa, lt, -List.reduceReplicate, KVl, KF, KS, getS, getO, gS, zipN, dropW, takeW, wds, stvs, sea, seaL, refs, refsL, refsEls, refsO, isPureEls, isPures, isPure, noExt, noExts, noExtEls, cellsL, ren, renL, renEls, keepO, keepS, keysO, refsS, refsOB, headC, setS, boxO, row, putW, putB, putB1, eNl, newOs, frz, renO, noExtO, zps, zp, two32, w64, -getElem?_pos, k_cnt, k_cnt0]
  · simp only [cond_true] at H1
    by_cases ha : at' = (b.length : Int)
    · have ha1 : (at' == (b.length : Int)) = true := by simp [ha]
      have ha2 : (at' != (b.length : Int)) = false := by simp [ha]
      cases e <;> simp -implicitDefEqProofs (maxSteps := 1000000) (disch := first | omega | rfl) [m11b0, hS, hu', H1, H2, hc, hs, wa, ha1, ha2, tp, lt, -List.reduceReplicate, KVl, KF, KS, getS, getO, gS, zipN, dropW, takeW, wds, stvs, sea, seaL, refs, refsL, refsEls, refsO, isPureEls, isPures, isPure, noExt, noExts, noExtEls, cellsL, ren, renL, renEls, keepO, keepS, keysO, refsS, refsOB, headC, setS, boxO, row, putW, putB, putB1, eNl, newOs, frz, renO, noExtO, zps, zp, two32, w64, -getElem?_pos, k_cnt, k_cnt0]
    · have ha1 : (at' == (b.length : Int)) = false := by simp [ha]
      have ha2 : (at' != (b.length : Int)) = true := by simp [ha]
      simp -implicitDefEqProofs (maxSteps := 1000000) (disch := first | omega | rfl) [m11b0, hS, hu', H1, hc, hs, wa, ha1, ha2, tp, lt, -List.reduceReplicate, KVl, KF, KS, getS, getO, gS, zipN, dropW, takeW, wds, stvs, sea, seaL, refs, refsL, refsEls, refsO, isPureEls, isPures, isPure, noExt, noExts, noExtEls, cellsL, ren, renL, renEls, keepO, keepS, keysO, refsS, refsOB, headC, setS, boxO, row, putW, putB, putB1, eNl, newOs, frz, renO, noExtO, zps, zp, two32, w64, -getElem?_pos, k_cnt, k_cnt0]
end
section
attribute [local congr] bnd_cg bndO_cg br_cg
theorem kind_get (k : Int) (bs : List Int) (hk : inB k 0 6 = true) : (getF k bs).kind = k := by
  rcases kinds hk with e | e | e | e | e | e | e <;> subst e <;> rfl
theorem ahead_sz (k : Int) (hk : inB k 0 6 = true) : aheadF k + (cond (tagdF k) 32 0) = szF k + 2 := by
  rcases kinds hk with e | e | e | e | e | e | e <;> subst e <;> rfl
theorem put_get_len (k : Int) (bs : List Int) (hk : inB k 0 6 = true) (hr : ∀ x ∈ bs, 0 ≤ x ∧ x ≤ 255) : (putF (getF k bs)).length = szF k + 2 := by
  rw [putF_len _ (by rw [kind_get k bs hk]; exact hk) (okF_get k bs hr).tag, kind_get k bs hk]
def gdK (k : Int) (bs : List Int) : Bool := plainF (getF k bs) && decide (putF (getF k bs) = bs)
theorem bad11 (k : Int) (bs : List Int) (hk : inB k 0 6 = true) (hr : ∀ x ∈ bs, 0 ≤ x ∧ x ≤ 255) (h : bs.length < aheadF k) : gdK k bs = false := by
  have hl := put_get_len k bs hk hr
  have := ahead_sz k hk
  have ht : (cond (tagdF k) 32 0 : Nat) ≤ 32 := by cases tagdF k <;> decide
  unfold gdK
  by_cases e : putF (getF k bs) = bs
  · rw [e] at hl; omega
  · simp [e]
theorem fin11 (k : Int) (bs : List Int) (hk : inB k 0 6 = true) (hr : ∀ x ∈ bs, 0 ≤ x ∧ x ≤ 255) (at' : Int) (h : bs.length = szF k + 2 → at' = bs.length) (pl : Bool) : (pl && ((at' == (bs.length : Int)) && decide (putF (getF k bs) = bs))) = (pl && decide (putF (getF k bs) = bs)) := by
  by_cases e : putF (getF k bs) = bs
  · have hl := put_get_len k bs hk hr
    rw [e] at hl
    simp [e, h hl]
  · simp [e]
def okR (f : Fra) : Option R := some (.tup [.agg (frC f), .i .i64 0], [])
theorem lp11_0 (M d : Nat) (bs : List Int) (hb : bs.length ≤ 64) (hr : ∀ x ∈ bs, 0 ≤ x ∧ x ≤ 255) : loopC (m11b0 (sem tab (M + 1000) (d + 5)) (M + 1000) []) (M + 1000) (sl11 (byL bs) false 3 2 0) (ob11 0 ⟨0, 0, 0, 0, 0, 0, 0, 0, z32⟩) = cond (gdK 0 bs) (okR (getF 0 bs)) (errR 3) := by
  have hbad := bad11 0 bs rfl hr
  by_cases c0 : 4 ≤ bs.length
  rotate_left
  · have x := V23x (M + 900) (d + 3) false bs 3 1 (by omega) (by omega) (by omega) (by omega)
    rw [k_loop, x11_0_0 _ _ _ _  x, hbad (by show bs.length < 12; omega)]; rfl
  have y0 := V99 (M + 900) (d + 3) false bs 3 1 (by omega) (by omega) hr (by omega)
  have w0 : IntKind.i64.wrap (vAt bs 3 1) = vAt bs 3 1 := by
    have := vAt_range bs hr 3 1 (by decide)
    rw [IntKind.wrap_i64]; omega
  rw [k_loop, s11_0_0 _ _ _ _  (vAt bs 3 1) w0 y0]
  by_cases c1 : 12 ≤ bs.length
  rotate_left
  · have x := V23x (M + 900) (d + 3) false bs 4 8 (by omega) (by omega) (by omega) (by omega)
    rw [k_loop, x11_0_1 _ _ _ _ (vAt bs 3 1) x, hbad (by show bs.length < 12; omega)]; rfl
  have y1 := V99 (M + 900) (d + 3) false bs 4 8 (by omega) (by omega) hr (by omega)
  rw [k_loop, s11_0_1 _ _ _ _ (vAt bs 3 1) (vAt bs 4 8) y1]
  have o := okF_get 0 bs hr
  have h10 := V10 (M + 900) d (getF 0 bs) o
  have pl := put_get_len 0 bs rfl hr
  have sz := szF_le 0
  have h24 := U95 M (d + 4) (putF (getF 0 bs)) bs (by omega)
  have e := e11u (sem tab (M + 1000) (d + 5)) (M + 1000) (loopC (m11b0 (sem tab (M + 1000) (d + 5)) (M + 1000) []) (M + 997)) bs (putF (getF 0 bs)) [(376, rowS (slF 104 0) (cpF 0))] (.sl 376 0 0 2) (getF 0 bs) (plainF (getF 0 bs)) 2 12 rfl h10 h24
  rw [fin11 0 bs rfl hr _ (by intro h; have h : bs.length = 12 := h; omega) _] at e
  rw [k_loop]
  exact e
theorem lp11_1 (M d : Nat) (bs : List Int) (hb : bs.length ≤ 64) (hr : ∀ x ∈ bs, 0 ≤ x ∧ x ≤ 255) : loopC (m11b0 (sem tab (M + 1000) (d + 5)) (M + 1000) []) (M + 1000) (sl11 (byL bs) false 3 2 0) (ob11 1 ⟨1, 0, 0, 0, 0, 0, 0, 0, z32⟩) = cond (gdK 1 bs) (okR (getF 1 bs)) (errR 3) := by
  have hbad := bad11 1 bs rfl hr
  by_cases c0 : 11 ≤ bs.length
  rotate_left
  · have x := V23x (M + 900) (d + 3) false bs 3 8 (by omega) (by omega) (by omega) (by omega)
    rw [k_loop, x11_1_0 _ _ _ _  x, hbad (by show bs.length < 15; omega)]; rfl
  have y0 := V99 (M + 900) (d + 3) false bs 3 8 (by omega) (by omega) hr (by omega)
  rw [k_loop, s11_1_0 _ _ _ _  (vAt bs 3 8) y0]
  by_cases c1 : 15 ≤ bs.length
  rotate_left
  · have x := V23x (M + 900) (d + 3) false bs 11 4 (by omega) (by omega) (by omega) (by omega)
    rw [k_loop, x11_1_1 _ _ _ _ (vAt bs 3 8) x, hbad (by show bs.length < 15; omega)]; rfl
  have y1 := V99 (M + 900) (d + 3) false bs 11 4 (by omega) (by omega) hr (by omega)
  have w1 : IntKind.i64.wrap (vAt bs 11 4) = vAt bs 11 4 := by
    have := vAt_range bs hr 11 4 (by decide)
    rw [IntKind.wrap_i64]; omega
  rw [k_loop, s11_1_1 _ _ _ _ (vAt bs 3 8) (vAt bs 11 4) w1 y1]
  have o := okF_get 1 bs hr
  have h10 := V10 (M + 900) d (getF 1 bs) o
  have pl := put_get_len 1 bs rfl hr
  have sz := szF_le 1
  have h24 := U95 M (d + 4) (putF (getF 1 bs)) bs (by omega)
  have e := e11u (sem tab (M + 1000) (d + 5)) (M + 1000) (loopC (m11b0 (sem tab (M + 1000) (d + 5)) (M + 1000) []) (M + 997)) bs (putF (getF 1 bs)) [(376, rowS (slF 104 1) (cpF 1))] (.sl 376 0 0 2) (getF 1 bs) (plainF (getF 1 bs)) 2 15 rfl h10 h24
  rw [fin11 1 bs rfl hr _ (by intro h; have h : bs.length = 15 := h; omega) _] at e
  rw [k_loop]
  exact e
theorem lp11_2 (M d : Nat) (bs : List Int) (hb : bs.length ≤ 64) (hr : ∀ x ∈ bs, 0 ≤ x ∧ x ≤ 255) : loopC (m11b0 (sem tab (M + 1000) (d + 5)) (M + 1000) []) (M + 1000) (sl11 (byL bs) true 3 1 0) (ob11 2 ⟨2, 0, 0, 0, 0, 0, 0, 0, z32⟩) = cond (gdK 2 bs) (okR (getF 2 bs)) (errR 3) := by
  have hbad := bad11 2 bs rfl hr
  by_cases c0 : 11 ≤ bs.length
  rotate_left
  · have x := V23x (M + 900) (d + 3) false bs 3 8 (by omega) (by omega) (by omega) (by omega)
    rw [k_loop, x11_2_0 _ _ _ _  x, hbad (by show bs.length < 11; omega)]; rfl
  have y0 := V99 (M + 900) (d + 3) false bs 3 8 (by omega) (by omega) hr (by omega)
  rw [k_loop, s11_2_0 _ _ _ _  (vAt bs 3 8) y0]
  have o := okF_get 2 bs hr
  have h10 := V10 (M + 900) d (getF 2 bs) o
  have pl := put_get_len 2 bs rfl hr
  have sz := szF_le 2
  have h24 := U95 M (d + 4) (putF (getF 2 bs)) bs (by omega)
  have e := e11t (sem tab (M + 1000) (d + 5)) (M + 1000) (loopC (m11b0 (sem tab (M + 1000) (d + 5)) (M + 1000) []) (M + 998)) bs (putF (getF 2 bs)) [(376, rowS (slF 104 2) (cpF 2))] (.sl 376 0 0 1) ⟨2, 0, (vAt bs 3 8), 0, 0, 0, 0, 0, z32⟩ (plainF (getF 2 bs)) 1 11 rfl (by omega) (by omega) rfl h10 h24
  rw [fin11 2 bs rfl hr _ (by intro h; have h : bs.length = 43 := h; omega) _] at e
  rw [k_loop]
  exact e
theorem lp11_3 (M d : Nat) (bs : List Int) (hb : bs.length ≤ 64) (hr : ∀ x ∈ bs, 0 ≤ x ∧ x ≤ 255) : loopC (m11b0 (sem tab (M + 1000) (d + 5)) (M + 1000) []) (M + 1000) (sl11 (byL bs) true 3 1 0) (ob11 3 ⟨3, 0, 0, 0, 0, 0, 0, 0, z32⟩) = cond (gdK 3 bs) (okR (getF 3 bs)) (errR 3) := by
  have hbad := bad11 3 bs rfl hr
  by_cases c0 : 11 ≤ bs.length
  rotate_left
  · have x := V23x (M + 900) (d + 3) false bs 3 8 (by omega) (by omega) (by omega) (by omega)
    rw [k_loop, x11_3_0 _ _ _ _  x, hbad (by show bs.length < 11; omega)]; rfl
  have y0 := V99 (M + 900) (d + 3) false bs 3 8 (by omega) (by omega) hr (by omega)
  rw [k_loop, s11_3_0 _ _ _ _  (vAt bs 3 8) y0]
  have o := okF_get 3 bs hr
  have h10 := V10 (M + 900) d (getF 3 bs) o
  have pl := put_get_len 3 bs rfl hr
  have sz := szF_le 3
  have h24 := U95 M (d + 4) (putF (getF 3 bs)) bs (by omega)
  have e := e11t (sem tab (M + 1000) (d + 5)) (M + 1000) (loopC (m11b0 (sem tab (M + 1000) (d + 5)) (M + 1000) []) (M + 998)) bs (putF (getF 3 bs)) [(376, rowS (slF 104 3) (cpF 3))] (.sl 376 0 0 1) ⟨3, 0, (vAt bs 3 8), 0, 0, 0, 0, 0, z32⟩ (plainF (getF 3 bs)) 1 11 rfl (by omega) (by omega) rfl h10 h24
  rw [fin11 3 bs rfl hr _ (by intro h; have h : bs.length = 43 := h; omega) _] at e
  rw [k_loop]
  exact e
theorem lp11_4 (M d : Nat) (bs : List Int) (hb : bs.length ≤ 64) (hr : ∀ x ∈ bs, 0 ≤ x ∧ x ≤ 255) : loopC (m11b0 (sem tab (M + 1000) (d + 5)) (M + 1000) []) (M + 1000) (sl11 (byL bs) true 3 4 0) (ob11 4 ⟨4, 0, 0, 0, 0, 0, 0, 0, z32⟩) = cond (gdK 4 bs) (okR (getF 4 bs)) (errR 3) := by
  have hbad := bad11 4 bs rfl hr
  by_cases c0 : 11 ≤ bs.length
  rotate_left
  · have x := V23x (M + 900) (d + 3) false bs 3 8 (by omega) (by omega) (by omega) (by omega)
    rw [k_loop, x11_4_0 _ _ _ _  x, hbad (by show bs.length < 22; omega)]; rfl
  have y0 := V99 (M + 900) (d + 3) false bs 3 8 (by omega) (by omega) hr (by omega)
  rw [k_loop, s11_4_0 _ _ _ _  (vAt bs 3 8) y0]
  by_cases c1 : 19 ≤ bs.length
  rotate_left
  · have x := V23x (M + 900) (d + 3) false bs 11 8 (by omega) (by omega) (by omega) (by omega)
    rw [k_loop, x11_4_1 _ _ _ _ (vAt bs 3 8) x, hbad (by show bs.length < 22; omega)]; rfl
  have y1 := V99 (M + 900) (d + 3) false bs 11 8 (by omega) (by omega) hr (by omega)
  rw [k_loop, s11_4_1 _ _ _ _ (vAt bs 3 8) (vAt bs 11 8) y1]
  by_cases c2 : 20 ≤ bs.length
  rotate_left
  · have x := V23x (M + 900) (d + 3) false bs 19 1 (by omega) (by omega) (by omega) (by omega)
    rw [k_loop, x11_4_2 _ _ _ _ (vAt bs 3 8) (vAt bs 11 8) x, hbad (by show bs.length < 22; omega)]; rfl
  have y2 := V99 (M + 900) (d + 3) false bs 19 1 (by omega) (by omega) hr (by omega)
  have w2 : IntKind.i64.wrap (vAt bs 19 1) = vAt bs 19 1 := by
    have := vAt_range bs hr 19 1 (by decide)
    rw [IntKind.wrap_i64]; omega
  rw [k_loop, s11_4_2 _ _ _ _ (vAt bs 3 8) (vAt bs 11 8) (vAt bs 19 1) w2 y2]
  by_cases c3 : 22 ≤ bs.length
  rotate_left
  · have x := V23x (M + 900) (d + 3) false bs 20 2 (by omega) (by omega) (by omega) (by omega)
    rw [k_loop, x11_4_3 _ _ _ _ (vAt bs 3 8) (vAt bs 11 8) (vAt bs 19 1) x, hbad (by show bs.length < 22; omega)]; rfl
  have y3 := V99 (M + 900) (d + 3) false bs 20 2 (by omega) (by omega) hr (by omega)
  have w3 : IntKind.i64.wrap (vAt bs 20 2) = vAt bs 20 2 := by
    have := vAt_range bs hr 20 2 (by decide)
    rw [IntKind.wrap_i64]; omega
  rw [k_loop, s11_4_3 _ _ _ _ (vAt bs 3 8) (vAt bs 11 8) (vAt bs 19 1) (vAt bs 20 2) w3 y3]
  have o := okF_get 4 bs hr
  have h10 := V10 (M + 900) d (getF 4 bs) o
  have pl := put_get_len 4 bs rfl hr
  have sz := szF_le 4
  have h24 := U95 M (d + 4) (putF (getF 4 bs)) bs (by omega)
  have e := e11t (sem tab (M + 1000) (d + 5)) (M + 1000) (loopC (m11b0 (sem tab (M + 1000) (d + 5)) (M + 1000) []) (M + 995)) bs (putF (getF 4 bs)) [(376, rowS (slF 104 4) (cpF 4))] (.sl 376 0 0 4) ⟨4, 0, (vAt bs 3 8), 0, 0, (vAt bs 11 8), (vAt bs 19 1), (vAt bs 20 2), z32⟩ (plainF (getF 4 bs)) 4 22 rfl (by omega) (by omega) rfl h10 h24
  rw [fin11 4 bs rfl hr _ (by intro h; have h : bs.length = 54 := h; omega) _] at e
  rw [k_loop]
  exact e
theorem lp11_5 (M d : Nat) (bs : List Int) (hb : bs.length ≤ 64) (hr : ∀ x ∈ bs, 0 ≤ x ∧ x ≤ 255) : loopC (m11b0 (sem tab (M + 1000) (d + 5)) (M + 1000) []) (M + 1000) (sl11 (byL bs) true 3 4 0) (ob11 5 ⟨5, 0, 0, 0, 0, 0, 0, 0, z32⟩) = cond (gdK 5 bs) (okR (getF 5 bs)) (errR 3) := by
  have hbad := bad11 5 bs rfl hr
  by_cases c0 : 11 ≤ bs.length
  rotate_left
  · have x := V23x (M + 900) (d + 3) false bs 3 8 (by omega) (by omega) (by omega) (by omega)
    rw [k_loop, x11_5_0 _ _ _ _  x, hbad (by show bs.length < 22; omega)]; rfl
  have y0 := V99 (M + 900) (d + 3) false bs 3 8 (by omega) (by omega) hr (by omega)
  rw [k_loop, s11_5_0 _ _ _ _  (vAt bs 3 8) y0]
  by_cases c1 : 19 ≤ bs.length
  rotate_left
  · have x := V23x (M + 900) (d + 3) false bs 11 8 (by omega) (by omega) (by omega) (by omega)
    rw [k_loop, x11_5_1 _ _ _ _ (vAt bs 3 8) x, hbad (by show bs.length < 22; omega)]; rfl
  have y1 := V99 (M + 900) (d + 3) false bs 11 8 (by omega) (by omega) hr (by omega)
  rw [k_loop, s11_5_1 _ _ _ _ (vAt bs 3 8) (vAt bs 11 8) y1]
  by_cases c2 : 20 ≤ bs.length
  rotate_left
  · have x := V23x (M + 900) (d + 3) false bs 19 1 (by omega) (by omega) (by omega) (by omega)
    rw [k_loop, x11_5_2 _ _ _ _ (vAt bs 3 8) (vAt bs 11 8) x, hbad (by show bs.length < 22; omega)]; rfl
  have y2 := V99 (M + 900) (d + 3) false bs 19 1 (by omega) (by omega) hr (by omega)
  have w2 : IntKind.i64.wrap (vAt bs 19 1) = vAt bs 19 1 := by
    have := vAt_range bs hr 19 1 (by decide)
    rw [IntKind.wrap_i64]; omega
  rw [k_loop, s11_5_2 _ _ _ _ (vAt bs 3 8) (vAt bs 11 8) (vAt bs 19 1) w2 y2]
  by_cases c3 : 22 ≤ bs.length
  rotate_left
  · have x := V23x (M + 900) (d + 3) false bs 20 2 (by omega) (by omega) (by omega) (by omega)
    rw [k_loop, x11_5_3 _ _ _ _ (vAt bs 3 8) (vAt bs 11 8) (vAt bs 19 1) x, hbad (by show bs.length < 22; omega)]; rfl
  have y3 := V99 (M + 900) (d + 3) false bs 20 2 (by omega) (by omega) hr (by omega)
  have w3 : IntKind.i64.wrap (vAt bs 20 2) = vAt bs 20 2 := by
    have := vAt_range bs hr 20 2 (by decide)
    rw [IntKind.wrap_i64]; omega
  rw [k_loop, s11_5_3 _ _ _ _ (vAt bs 3 8) (vAt bs 11 8) (vAt bs 19 1) (vAt bs 20 2) w3 y3]
  have o := okF_get 5 bs hr
  have h10 := V10 (M + 900) d (getF 5 bs) o
  have pl := put_get_len 5 bs rfl hr
  have sz := szF_le 5
  have h24 := U95 M (d + 4) (putF (getF 5 bs)) bs (by omega)
  have e := e11t (sem tab (M + 1000) (d + 5)) (M + 1000) (loopC (m11b0 (sem tab (M + 1000) (d + 5)) (M + 1000) []) (M + 995)) bs (putF (getF 5 bs)) [(376, rowS (slF 104 5) (cpF 5))] (.sl 376 0 0 4) ⟨5, 0, (vAt bs 3 8), 0, 0, (vAt bs 11 8), (vAt bs 19 1), (vAt bs 20 2), z32⟩ (plainF (getF 5 bs)) 4 22 rfl (by omega) (by omega) rfl h10 h24
  rw [fin11 5 bs rfl hr _ (by intro h; have h : bs.length = 54 := h; omega) _] at e
  rw [k_loop]
  exact e
theorem lp11_6 (M d : Nat) (bs : List Int) (hb : bs.length ≤ 64) (hr : ∀ x ∈ bs, 0 ≤ x ∧ x ≤ 255) : loopC (m11b0 (sem tab (M + 1000) (d + 5)) (M + 1000) []) (M + 1000) (sl11 (byL bs) false 3 1 0) (ob11 6 ⟨6, 0, 0, 0, 0, 0, 0, 0, z32⟩) = cond (gdK 6 bs) (okR (getF 6 bs)) (errR 3) := by
  have hbad := bad11 6 bs rfl hr
  by_cases c0 : 4 ≤ bs.length
  rotate_left
  · have x := V23x (M + 900) (d + 3) false bs 3 1 (by omega) (by omega) (by omega) (by omega)
    rw [k_loop, x11_6_0 _ _ _ _  x, hbad (by show bs.length < 4; omega)]; rfl
  have y0 := V99 (M + 900) (d + 3) false bs 3 1 (by omega) (by omega) hr (by omega)
  have w0 : IntKind.i64.wrap (vAt bs 3 1) = vAt bs 3 1 := by
    have := vAt_range bs hr 3 1 (by decide)
    rw [IntKind.wrap_i64]; omega
  rw [k_loop, s11_6_0 _ _ _ _  (vAt bs 3 1) w0 y0]
  have o := okF_get 6 bs hr
  have h10 := V10 (M + 900) d (getF 6 bs) o
  have pl := put_get_len 6 bs rfl hr
  have sz := szF_le 6
  have h24 := U95 M (d + 4) (putF (getF 6 bs)) bs (by omega)
  have e := e11u (sem tab (M + 1000) (d + 5)) (M + 1000) (loopC (m11b0 (sem tab (M + 1000) (d + 5)) (M + 1000) []) (M + 998)) bs (putF (getF 6 bs)) [(376, rowS (slF 104 6) (cpF 6))] (.sl 376 0 0 1) (getF 6 bs) (plainF (getF 6 bs)) 1 4 rfl h10 h24
  rw [fin11 6 bs rfl hr _ (by intro h; have h : bs.length = 4 := h; omega) _] at e
  rw [k_loop]
  exact e
end
section
attribute [local congr] bnd_cg bndO_cg br_cg
def outRd (bs : List Int) : Option R := cond (goodF bs) (okR (seemF bs)) (errR (errF bs))
set_option maxHeartbeats 4000000 in
theorem R11_0 (M d : Nat) (bs : List Int) (hb : bs.length ≤ 64) (h3 : 3 ≤ bs.length) (hr : ∀ x ∈ bs, 0 ≤ x ∧ x ≤ 255) (hL : longF bs = bs.length) (hx : (byL bs)[2]? = some [.i .u8 0]) :
    m11 (sem tab (M + 1000) (d + 5)) (M + 1000) [.l false (byL bs)] [] = cond (gdK 0 bs) (okR (getF 0 bs)) (errR 3) := by
  have h := lp11_0 M d bs hb hr
  have h21 := V21 (M + 900) (d + 2) bs (by omega) hr
  rw [hL, show M + 900 + 100 = M + 1000 by omega, show d + 2 + 3 = d + 5 by omega] at h21
  have c : ca (sem tab (M + 1000) (d + 5)) [(104, fbox ⟨0, 0, 0, 0, 0, 0, 0, 0, z32⟩), (104, fbox zeF), (80, fbox zeF)] 376 false 22 [.p 104 0 0 0 none] = some (.tup [.sl 376 0 0 2, .b false], [(376, rowS [sN 104 1 1, sU 104 3 8] (some 2)), (104, fbox ⟨0, 0, 0, 0, 0, 0, 0, 0, z32⟩)]) := k_ca22 (sem tab (M + 1000) (d + 5)) [(104, fbox ⟨0, 0, 0, 0, 0, 0, 0, 0, z32⟩), (104, fbox zeF), (80, fbox zeF)] 376 104 _ ⟨0, 0, 0, 0, 0, 0, 0, 0, z32⟩ _ rfl rfl rfl (V22 (M + 1000) (d + 3) ⟨0, 0, 0, 0, 0, 0, 0, 0, z32⟩ rfl)
  have hl := byL_len bs
  have c1 : ¬ ((bs.length : Int) > 64) := by omega
  have c2 : ((bs.length : Int) == -1) = false := by simp
  have c3 : ((bs.length : Int) == 2) = false := by simp; omega
  have wk : IntKind.i64.wrap (0 : Int) = 0 := by decide
  rw [k_loop] at h
  have h : m11b0 (sem tab (M + 1000) (d + 5)) (M + 1000) [] (loopC (m11b0 (sem tab (M + 1000) (d + 5)) (M + 1000) []) (M + 999)) [(0, .l false (byL bs)), (2, .p 80 0 0 0 none), (5, .p 104 0 0 0 none), (7, .b false), (8, .i .i64 3), (42, .sl 376 0 0 2), (43, .i .i64 2), (44, .i .i64 0)] [(80, fbox zeF), (104, fbox ⟨0, 0, 0, 0, 0, 0, 0, 0, z32⟩), (376, rowS [sN 104 1 1, sU 104 3 8] (some 2))] = cond (gdK 0 bs) (okR (getF 0 bs)) (errR 3) := h
  generalize cond (gdK 0 bs) (okR (getF 0 bs)) (errR 3) = res at *
  have hu' := uz32.symm
  rw [← hl] at h21 c1 c2 c3
  simp only [sl11, fbox, frC, rowS, sU, sN, box, zeF] at h c
  generalize uL z32 = z at *
  generalize byL bs = b at *
  simp -implicitDefEqProofs (maxSteps := 1000000) (disch := first | omega | rfl) [m11, h21, c, h, c1, c2, c3, hx, wk, hu', boxO, -List.reduceReplicate, KF, KS, getS, getO, gS, zipN, dropW, takeW, wds, stvs, sea, seaL, refs, refsL, refsEls, refsO, isPureEls, isPures, isPure, noExt, noExts, noExtEls, cellsL, ren, renL, renEls, keepO, keepS, keysO, refsS, refsOB, headC, setS, boxO, row, putW, putB, putB1, eNl, newOs, frz, renO, noExtO, zps, zp, two32, w64, -getElem?_pos, k_cnt, k_cnt0]
set_option maxHeartbeats 4000000 in
theorem R11_1 (M d : Nat) (bs : List Int) (hb : bs.length ≤ 64) (h3 : 3 ≤ bs.length) (hr : ∀ x ∈ bs, 0 ≤ x ∧ x ≤ 255) (hL : longF bs = bs.length) (hx : (byL bs)[2]? = some [.i .u8 1]) :
    m11 (sem tab (M + 1000) (d + 5)) (M + 1000) [.l false (byL bs)] [] = cond (gdK 1 bs) (okR (getF 1 bs)) (errR 3) := by
  have h := lp11_1 M d bs hb hr
  have h21 := V21 (M + 900) (d + 2) bs (by omega) hr
  rw [hL, show M + 900 + 100 = M + 1000 by omega, show d + 2 + 3 = d + 5 by omega] at h21
  have c : ca (sem tab (M + 1000) (d + 5)) [(104, fbox ⟨1, 0, 0, 0, 0, 0, 0, 0, z32⟩), (104, fbox zeF), (80, fbox zeF)] 376 false 22 [.p 104 0 0 0 none] = some (.tup [.sl 376 0 0 2, .b false], [(376, rowS [sU 104 2 8, sN 104 4 4] (some 2)), (104, fbox ⟨1, 0, 0, 0, 0, 0, 0, 0, z32⟩)]) := k_ca22 (sem tab (M + 1000) (d + 5)) [(104, fbox ⟨1, 0, 0, 0, 0, 0, 0, 0, z32⟩), (104, fbox zeF), (80, fbox zeF)] 376 104 _ ⟨1, 0, 0, 0, 0, 0, 0, 0, z32⟩ _ rfl rfl rfl (V22 (M + 1000) (d + 3) ⟨1, 0, 0, 0, 0, 0, 0, 0, z32⟩ rfl)
  have hl := byL_len bs
  have c1 : ¬ ((bs.length : Int) > 64) := by omega
  have c2 : ((bs.length : Int) == -1) = false := by simp
  have c3 : ((bs.length : Int) == 2) = false := by simp; omega
  have wk : IntKind.i64.wrap (1 : Int) = 1 := by decide
  rw [k_loop] at h
  have h : m11b0 (sem tab (M + 1000) (d + 5)) (M + 1000) [] (loopC (m11b0 (sem tab (M + 1000) (d + 5)) (M + 1000) []) (M + 999)) [(0, .l false (byL bs)), (2, .p 80 0 0 0 none), (5, .p 104 0 0 0 none), (7, .b false), (8, .i .i64 3), (42, .sl 376 0 0 2), (43, .i .i64 2), (44, .i .i64 0)] [(80, fbox zeF), (104, fbox ⟨1, 0, 0, 0, 0, 0, 0, 0, z32⟩), (376, rowS [sU 104 2 8, sN 104 4 4] (some 2))] = cond (gdK 1 bs) (okR (getF 1 bs)) (errR 3) := h
  generalize cond (gdK 1 bs) (okR (getF 1 bs)) (errR 3) = res at *
  have hu' := uz32.symm
  rw [← hl] at h21 c1 c2 c3
  simp only [sl11, fbox, frC, rowS, sU, sN, box, zeF] at h c
  generalize uL z32 = z at *
  generalize byL bs = b at *
  simp -implicitDefEqProofs (maxSteps := 1000000) (disch := first | omega | rfl) [m11, h21, c, h, c1, c2, c3, hx, wk, hu', boxO, -List.reduceReplicate, KF, KS, getS, getO, gS, zipN, dropW, takeW, wds, stvs, sea, seaL, refs, refsL, refsEls, refsO, isPureEls, isPures, isPure, noExt, noExts, noExtEls, cellsL, ren, renL, renEls, keepO, keepS, keysO, refsS, refsOB, headC, setS, boxO, row, putW, putB, putB1, eNl, newOs, frz, renO, noExtO, zps, zp, two32, w64, -getElem?_pos, k_cnt, k_cnt0]
set_option maxHeartbeats 4000000 in
theorem R11_2 (M d : Nat) (bs : List Int) (hb : bs.length ≤ 64) (h3 : 3 ≤ bs.length) (hr : ∀ x ∈ bs, 0 ≤ x ∧ x ≤ 255) (hL : longF bs = bs.length) (hx : (byL bs)[2]? = some [.i .u8 2]) :
    m11 (sem tab (M + 1000) (d + 5)) (M + 1000) [.l false (byL bs)] [] = cond (gdK 2 bs) (okR (getF 2 bs)) (errR 3) := by
  have h := lp11_2 M d bs hb hr
  have h21 := V21 (M + 900) (d + 2) bs (by omega) hr
  rw [hL, show M + 900 + 100 = M + 1000 by omega, show d + 2 + 3 = d + 5 by omega] at h21
  have c : ca (sem tab (M + 1000) (d + 5)) [(104, fbox ⟨2, 0, 0, 0, 0, 0, 0, 0, z32⟩), (104, fbox zeF), (80, fbox zeF)] 376 false 22 [.p 104 0 0 0 none] = some (.tup [.sl 376 0 0 1, .b true], [(376, rowS [sU 104 2 8] none), (104, fbox ⟨2, 0, 0, 0, 0, 0, 0, 0, z32⟩)]) := k_ca22 (sem tab (M + 1000) (d + 5)) [(104, fbox ⟨2, 0, 0, 0, 0, 0, 0, 0, z32⟩), (104, fbox zeF), (80, fbox zeF)] 376 104 _ ⟨2, 0, 0, 0, 0, 0, 0, 0, z32⟩ _ rfl rfl rfl (V22 (M + 1000) (d + 3) ⟨2, 0, 0, 0, 0, 0, 0, 0, z32⟩ rfl)
  have hl := byL_len bs
  have c1 : ¬ ((bs.length : Int) > 64) := by omega
  have c2 : ((bs.length : Int) == -1) = false := by simp
  have c3 : ((bs.length : Int) == 2) = false := by simp; omega
  have wk : IntKind.i64.wrap (2 : Int) = 2 := by decide
  rw [k_loop] at h
  have h : m11b0 (sem tab (M + 1000) (d + 5)) (M + 1000) [] (loopC (m11b0 (sem tab (M + 1000) (d + 5)) (M + 1000) []) (M + 999)) [(0, .l false (byL bs)), (2, .p 80 0 0 0 none), (5, .p 104 0 0 0 none), (7, .b true), (8, .i .i64 3), (42, .sl 376 0 0 1), (43, .i .i64 1), (44, .i .i64 0)] [(80, fbox zeF), (104, fbox ⟨2, 0, 0, 0, 0, 0, 0, 0, z32⟩), (376, rowS [sU 104 2 8] none)] = cond (gdK 2 bs) (okR (getF 2 bs)) (errR 3) := h
  generalize cond (gdK 2 bs) (okR (getF 2 bs)) (errR 3) = res at *
  have hu' := uz32.symm
  rw [← hl] at h21 c1 c2 c3
  simp only [sl11, fbox, frC, rowS, sU, sN, box, zeF] at h c
  generalize uL z32 = z at *
  generalize byL bs = b at *
  simp -implicitDefEqProofs (maxSteps := 1000000) (disch := first | omega | rfl) [m11, h21, c, h, c1, c2, c3, hx, wk, hu', boxO, -List.reduceReplicate, KF, KS, getS, getO, gS, zipN, dropW, takeW, wds, stvs, sea, seaL, refs, refsL, refsEls, refsO, isPureEls, isPures, isPure, noExt, noExts, noExtEls, cellsL, ren, renL, renEls, keepO, keepS, keysO, refsS, refsOB, headC, setS, boxO, row, putW, putB, putB1, eNl, newOs, frz, renO, noExtO, zps, zp, two32, w64, -getElem?_pos, k_cnt, k_cnt0]
set_option maxHeartbeats 4000000 in
theorem R11_3 (M d : Nat) (bs : List Int) (hb : bs.length ≤ 64) (h3 : 3 ≤ bs.length) (hr : ∀ x ∈ bs, 0 ≤ x ∧ x ≤ 255) (hL : longF bs = bs.length) (hx : (byL bs)[2]? = some [.i .u8 3]) :
    m11 (sem tab (M + 1000) (d + 5)) (M + 1000) [.l false (byL bs)] [] = cond (gdK 3 bs) (okR (getF 3 bs)) (errR 3) := by
  have h := lp11_3 M d bs hb hr
  have h21 := V21 (M + 900) (d + 2) bs (by omega) hr
  rw [hL, show M + 900 + 100 = M + 1000 by omega, show d + 2 + 3 = d + 5 by omega] at h21
  have c : ca (sem tab (M + 1000) (d + 5)) [(104, fbox ⟨3, 0, 0, 0, 0, 0, 0, 0, z32⟩), (104, fbox zeF), (80, fbox zeF)] 376 false 22 [.p 104 0 0 0 none] = some (.tup [.sl 376 0 0 1, .b true], [(376, rowS [sU 104 2 8] none), (104, fbox ⟨3, 0, 0, 0, 0, 0, 0, 0, z32⟩)]) := k_ca22 (sem tab (M + 1000) (d + 5)) [(104, fbox ⟨3, 0, 0, 0, 0, 0, 0, 0, z32⟩), (104, fbox zeF), (80, fbox zeF)] 376 104 _ ⟨3, 0, 0, 0, 0, 0, 0, 0, z32⟩ _ rfl rfl rfl (V22 (M + 1000) (d + 3) ⟨3, 0, 0, 0, 0, 0, 0, 0, z32⟩ rfl)
  have hl := byL_len bs
  have c1 : ¬ ((bs.length : Int) > 64) := by omega
  have c2 : ((bs.length : Int) == -1) = false := by simp
  have c3 : ((bs.length : Int) == 2) = false := by simp; omega
  have wk : IntKind.i64.wrap (3 : Int) = 3 := by decide
  rw [k_loop] at h
  have h : m11b0 (sem tab (M + 1000) (d + 5)) (M + 1000) [] (loopC (m11b0 (sem tab (M + 1000) (d + 5)) (M + 1000) []) (M + 999)) [(0, .l false (byL bs)), (2, .p 80 0 0 0 none), (5, .p 104 0 0 0 none), (7, .b true), (8, .i .i64 3), (42, .sl 376 0 0 1), (43, .i .i64 1), (44, .i .i64 0)] [(80, fbox zeF), (104, fbox ⟨3, 0, 0, 0, 0, 0, 0, 0, z32⟩), (376, rowS [sU 104 2 8] none)] = cond (gdK 3 bs) (okR (getF 3 bs)) (errR 3) := h
  generalize cond (gdK 3 bs) (okR (getF 3 bs)) (errR 3) = res at *
  have hu' := uz32.symm
  rw [← hl] at h21 c1 c2 c3
  simp only [sl11, fbox, frC, rowS, sU, sN, box, zeF] at h c
  generalize uL z32 = z at *
  generalize byL bs = b at *
  simp -implicitDefEqProofs (maxSteps := 1000000) (disch := first | omega | rfl) [m11, h21, c, h, c1, c2, c3, hx, wk, hu', boxO, -List.reduceReplicate, KF, KS, getS, getO, gS, zipN, dropW, takeW, wds, stvs, sea, seaL, refs, refsL, refsEls, refsO, isPureEls, isPures, isPure, noExt, noExts, noExtEls, cellsL, ren, renL, renEls, keepO, keepS, keysO, refsS, refsOB, headC, setS, boxO, row, putW, putB, putB1, eNl, newOs, frz, renO, noExtO, zps, zp, two32, w64, -getElem?_pos, k_cnt, k_cnt0]
set_option maxHeartbeats 4000000 in
theorem R11_4 (M d : Nat) (bs : List Int) (hb : bs.length ≤ 64) (h3 : 3 ≤ bs.length) (hr : ∀ x ∈ bs, 0 ≤ x ∧ x ≤ 255) (hL : longF bs = bs.length) (hx : (byL bs)[2]? = some [.i .u8 4]) :
    m11 (sem tab (M + 1000) (d + 5)) (M + 1000) [.l false (byL bs)] [] = cond (gdK 4 bs) (okR (getF 4 bs)) (errR 3) := by
  have h := lp11_4 M d bs hb hr
  have h21 := V21 (M + 900) (d + 2) bs (by omega) hr
  rw [hL, show M + 900 + 100 = M + 1000 by omega, show d + 2 + 3 = d + 5 by omega] at h21
  have c : ca (sem tab (M + 1000) (d + 5)) [(104, fbox ⟨4, 0, 0, 0, 0, 0, 0, 0, z32⟩), (104, fbox zeF), (80, fbox zeF)] 376 false 22 [.p 104 0 0 0 none] = some (.tup [.sl 376 0 0 4, .b true], [(376, rowS [sU 104 2 8, sU 104 5 8, sN 104 6 1, sN 104 7 2] none), (104, fbox ⟨4, 0, 0, 0, 0, 0, 0, 0, z32⟩)]) := k_ca22 (sem tab (M + 1000) (d + 5)) [(104, fbox ⟨4, 0, 0, 0, 0, 0, 0, 0, z32⟩), (104, fbox zeF), (80, fbox zeF)] 376 104 _ ⟨4, 0, 0, 0, 0, 0, 0, 0, z32⟩ _ rfl rfl rfl (V22 (M + 1000) (d + 3) ⟨4, 0, 0, 0, 0, 0, 0, 0, z32⟩ rfl)
  have hl := byL_len bs
  have c1 : ¬ ((bs.length : Int) > 64) := by omega
  have c2 : ((bs.length : Int) == -1) = false := by simp
  have c3 : ((bs.length : Int) == 2) = false := by simp; omega
  have wk : IntKind.i64.wrap (4 : Int) = 4 := by decide
  rw [k_loop] at h
  have h : m11b0 (sem tab (M + 1000) (d + 5)) (M + 1000) [] (loopC (m11b0 (sem tab (M + 1000) (d + 5)) (M + 1000) []) (M + 999)) [(0, .l false (byL bs)), (2, .p 80 0 0 0 none), (5, .p 104 0 0 0 none), (7, .b true), (8, .i .i64 3), (42, .sl 376 0 0 4), (43, .i .i64 4), (44, .i .i64 0)] [(80, fbox zeF), (104, fbox ⟨4, 0, 0, 0, 0, 0, 0, 0, z32⟩), (376, rowS [sU 104 2 8, sU 104 5 8, sN 104 6 1, sN 104 7 2] none)] = cond (gdK 4 bs) (okR (getF 4 bs)) (errR 3) := h
  generalize cond (gdK 4 bs) (okR (getF 4 bs)) (errR 3) = res at *
  have hu' := uz32.symm
  rw [← hl] at h21 c1 c2 c3
  simp only [sl11, fbox, frC, rowS, sU, sN, box, zeF] at h c
  generalize uL z32 = z at *
  generalize byL bs = b at *
  simp -implicitDefEqProofs (maxSteps := 1000000) (disch := first | omega | rfl) [m11, h21, c, h, c1, c2, c3, hx, wk, hu', boxO, -List.reduceReplicate, KF, KS, getS, getO, gS, zipN, dropW, takeW, wds, stvs, sea, seaL, refs, refsL, refsEls, refsO, isPureEls, isPures, isPure, noExt, noExts, noExtEls, cellsL, ren, renL, renEls, keepO, keepS, keysO, refsS, refsOB, headC, setS, boxO, row, putW, putB, putB1, eNl, newOs, frz, renO, noExtO, zps, zp, two32, w64, -getElem?_pos, k_cnt, k_cnt0]
set_option maxHeartbeats 4000000 in
theorem R11_5 (M d : Nat) (bs : List Int) (hb : bs.length ≤ 64) (h3 : 3 ≤ bs.length) (hr : ∀ x ∈ bs, 0 ≤ x ∧ x ≤ 255) (hL : longF bs = bs.length) (hx : (byL bs)[2]? = some [.i .u8 5]) :
    m11 (sem tab (M + 1000) (d + 5)) (M + 1000) [.l false (byL bs)] [] = cond (gdK 5 bs) (okR (getF 5 bs)) (errR 3) := by
  have h := lp11_5 M d bs hb hr
  have h21 := V21 (M + 900) (d + 2) bs (by omega) hr
  rw [hL, show M + 900 + 100 = M + 1000 by omega, show d + 2 + 3 = d + 5 by omega] at h21
  have c : ca (sem tab (M + 1000) (d + 5)) [(104, fbox ⟨5, 0, 0, 0, 0, 0, 0, 0, z32⟩), (104, fbox zeF), (80, fbox zeF)] 376 false 22 [.p 104 0 0 0 none] = some (.tup [.sl 376 0 0 4, .b true], [(376, rowS [sU 104 2 8, sU 104 5 8, sN 104 6 1, sN 104 7 2] none), (104, fbox ⟨5, 0, 0, 0, 0, 0, 0, 0, z32⟩)]) := k_ca22 (sem tab (M + 1000) (d + 5)) [(104, fbox ⟨5, 0, 0, 0, 0, 0, 0, 0, z32⟩), (104, fbox zeF), (80, fbox zeF)] 376 104 _ ⟨5, 0, 0, 0, 0, 0, 0, 0, z32⟩ _ rfl rfl rfl (V22 (M + 1000) (d + 3) ⟨5, 0, 0, 0, 0, 0, 0, 0, z32⟩ rfl)
  have hl := byL_len bs
  have c1 : ¬ ((bs.length : Int) > 64) := by omega
  have c2 : ((bs.length : Int) == -1) = false := by simp
  have c3 : ((bs.length : Int) == 2) = false := by simp; omega
  have wk : IntKind.i64.wrap (5 : Int) = 5 := by decide
  rw [k_loop] at h
  have h : m11b0 (sem tab (M + 1000) (d + 5)) (M + 1000) [] (loopC (m11b0 (sem tab (M + 1000) (d + 5)) (M + 1000) []) (M + 999)) [(0, .l false (byL bs)), (2, .p 80 0 0 0 none), (5, .p 104 0 0 0 none), (7, .b true), (8, .i .i64 3), (42, .sl 376 0 0 4), (43, .i .i64 4), (44, .i .i64 0)] [(80, fbox zeF), (104, fbox ⟨5, 0, 0, 0, 0, 0, 0, 0, z32⟩), (376, rowS [sU 104 2 8, sU 104 5 8, sN 104 6 1, sN 104 7 2] none)] = cond (gdK 5 bs) (okR (getF 5 bs)) (errR 3) := h
  generalize cond (gdK 5 bs) (okR (getF 5 bs)) (errR 3) = res at *
  have hu' := uz32.symm
  rw [← hl] at h21 c1 c2 c3
  simp only [sl11, fbox, frC, rowS, sU, sN, box, zeF] at h c
  generalize uL z32 = z at *
  generalize byL bs = b at *
  simp -implicitDefEqProofs (maxSteps := 1000000) (disch := first | omega | rfl) [m11, h21, c, h, c1, c2, c3, hx, wk, hu', boxO, -List.reduceReplicate, KF, KS, getS, getO, gS, zipN, dropW, takeW, wds, stvs, sea, seaL, refs, refsL, refsEls, refsO, isPureEls, isPures, isPure, noExt, noExts, noExtEls, cellsL, ren, renL, renEls, keepO, keepS, keysO, refsS, refsOB, headC, setS, boxO, row, putW, putB, putB1, eNl, newOs, frz, renO, noExtO, zps, zp, two32, w64, -getElem?_pos, k_cnt, k_cnt0]
set_option maxHeartbeats 4000000 in
theorem R11_6 (M d : Nat) (bs : List Int) (hb : bs.length ≤ 64) (h3 : 3 ≤ bs.length) (hr : ∀ x ∈ bs, 0 ≤ x ∧ x ≤ 255) (hL : longF bs = bs.length) (hx : (byL bs)[2]? = some [.i .u8 6]) :
    m11 (sem tab (M + 1000) (d + 5)) (M + 1000) [.l false (byL bs)] [] = cond (gdK 6 bs) (okR (getF 6 bs)) (errR 3) := by
  have h := lp11_6 M d bs hb hr
  have h21 := V21 (M + 900) (d + 2) bs (by omega) hr
  rw [hL, show M + 900 + 100 = M + 1000 by omega, show d + 2 + 3 = d + 5 by omega] at h21
  have c : ca (sem tab (M + 1000) (d + 5)) [(104, fbox ⟨6, 0, 0, 0, 0, 0, 0, 0, z32⟩), (104, fbox zeF), (80, fbox zeF)] 376 false 22 [.p 104 0 0 0 none] = some (.tup [.sl 376 0 0 1, .b false], [(376, rowS [sN 104 6 1] (some 1)), (104, fbox ⟨6, 0, 0, 0, 0, 0, 0, 0, z32⟩)]) := k_ca22 (sem tab (M + 1000) (d + 5)) [(104, fbox ⟨6, 0, 0, 0, 0, 0, 0, 0, z32⟩), (104, fbox zeF), (80, fbox zeF)] 376 104 _ ⟨6, 0, 0, 0, 0, 0, 0, 0, z32⟩ _ rfl rfl rfl (V22 (M + 1000) (d + 3) ⟨6, 0, 0, 0, 0, 0, 0, 0, z32⟩ rfl)
  have hl := byL_len bs
  have c1 : ¬ ((bs.length : Int) > 64) := by omega
  have c2 : ((bs.length : Int) == -1) = false := by simp
  have c3 : ((bs.length : Int) == 2) = false := by simp; omega
  have wk : IntKind.i64.wrap (6 : Int) = 6 := by decide
  rw [k_loop] at h
  have h : m11b0 (sem tab (M + 1000) (d + 5)) (M + 1000) [] (loopC (m11b0 (sem tab (M + 1000) (d + 5)) (M + 1000) []) (M + 999)) [(0, .l false (byL bs)), (2, .p 80 0 0 0 none), (5, .p 104 0 0 0 none), (7, .b false), (8, .i .i64 3), (42, .sl 376 0 0 1), (43, .i .i64 1), (44, .i .i64 0)] [(80, fbox zeF), (104, fbox ⟨6, 0, 0, 0, 0, 0, 0, 0, z32⟩), (376, rowS [sN 104 6 1] (some 1))] = cond (gdK 6 bs) (okR (getF 6 bs)) (errR 3) := h
  generalize cond (gdK 6 bs) (okR (getF 6 bs)) (errR 3) = res at *
  have hu' := uz32.symm
  rw [← hl] at h21 c1 c2 c3
  simp only [sl11, fbox, frC, rowS, sU, sN, box, zeF] at h c
  generalize uL z32 = z at *
  generalize byL bs = b at *
  simp -implicitDefEqProofs (maxSteps := 1000000) (disch := first | omega | rfl) [m11, h21, c, h, c1, c2, c3, hx, wk, hu', boxO, -List.reduceReplicate, KF, KS, getS, getO, gS, zipN, dropW, takeW, wds, stvs, sea, seaL, refs, refsL, refsEls, refsO, isPureEls, isPures, isPure, noExt, noExts, noExtEls, cellsL, ren, renL, renEls, keepO, keepS, keysO, refsS, refsOB, headC, setS, boxO, row, putW, putB, putB1, eNl, newOs, frz, renO, noExtO, zps, zp, two32, w64, -getElem?_pos, k_cnt, k_cnt0]
end
section
attribute [local congr] bnd_cg bndO_cg br_cg
theorem plain_kind (f : Fra) (h : inB f.kind 0 6 = false) : plainF f = false := by unfold plainF; rw [h]; rfl
set_option maxHeartbeats 4000000 in
theorem R11x (M d : Nat) (k : Int) (bs : List Int) (hk : inB k 0 6 = false) (h0 : 0 ≤ k ∧ k ≤ 255) (hb : bs.length ≤ 64) (h3 : 3 ≤ bs.length) (hr : ∀ x ∈ bs, 0 ≤ x ∧ x ≤ 255) (hL : longF bs = bs.length) (hx : (byL bs)[2]? = some [.i .u8 k]) :
    m11 (sem tab (M + 1000) (d + 5)) (M + 1000) [.l false (byL bs)] [] = errR 3 := by
  have o : okF ⟨k, 0, 0, 0, 0, 0, 0, 0, z32⟩ := ⟨okF_ze.sess, okF_ze.cn, okF_ze.count, z32_len, z32_range⟩
  have h10 := V10 (M + 900) d ⟨k, 0, 0, 0, 0, 0, 0, 0, z32⟩ o
  have hp := plain_kind ⟨k, 0, 0, 0, 0, 0, 0, 0, z32⟩ hk
  have e := e11u (sem tab (M + 1000) (d + 5)) (M + 1000) (loopC (m11b0 (sem tab (M + 1000) (d + 5)) (M + 1000) []) (M + 999)) bs bs [] (.e true) ⟨k, 0, 0, 0, 0, 0, 0, 0, z32⟩ false 0 3 rfl (by rw [hp] at h10; exact h10) (U95 M (d + 4) bs bs (by omega))
  rw [Bool.false_and, cond_false] at e
  have h21 := V21 (M + 900) (d + 2) bs (by omega) hr
  rw [hL, show M + 900 + 100 = M + 1000 by omega, show d + 2 + 3 = d + 5 by omega] at h21
  have c := k_ca22x (sem tab (M + 1000) (d + 5)) [(104, fbox ⟨k, 0, 0, 0, 0, 0, 0, 0, z32⟩), (104, fbox zeF), (80, fbox zeF)] 376 104 _ ⟨k, 0, 0, 0, 0, 0, 0, 0, z32⟩ rfl (V22x (M + 1000) (d + 3) ⟨k, 0, 0, 0, 0, 0, 0, 0, z32⟩ hk)
  have hl := byL_len bs
  have c1 : ¬ ((bs.length : Int) > 64) := by omega
  have c2 : ((bs.length : Int) == -1) = false := by simp
  have c3 : ((bs.length : Int) == 2) = false := by simp; omega
  have wk : IntKind.i64.wrap k = k := by rw [IntKind.wrap_i64]; omega
  generalize errR 3 = res at *
  have hu' := uz32.symm
  rw [← hl] at h21 c1 c2 c3
  clear h10
  simp only [sl11x, ob11x, fbox, frC, rowS, sU, sN, box, zeF] at e c
  generalize uL z32 = z at *
  generalize byL bs = b at *
  simp -implicitDefEqProofs (maxSteps := 1000000) (disch := first | omega | rfl) [m11, h21, c, e, c1, c2, c3, hx, wk, hu', boxO, -List.reduceReplicate, KF, KS, getS, getO, gS, zipN, dropW, takeW, wds, stvs, sea, seaL, refs, refsL, refsEls, refsO, isPureEls, isPures, isPure, noExt, noExts, noExtEls, cellsL, ren, renL, renEls, keepO, keepS, keysO, refsS, refsOB, headC, setS, boxO, row, putW, putB, putB1, eNl, newOs, frz, renO, noExtO, zps, zp, two32, w64, -getElem?_pos, k_cnt, k_cnt0]
theorem gdK_seem (bs : List Int) : gdK (bs.getD 2 0) bs = goodF bs := rfl
set_option maxHeartbeats 4000000 in
/-- The frame of bytes, or why none. -/
theorem V11 (M d : Nat) (bs : List Int) (hb : bs.length ≤ 10000) (hr : ∀ x ∈ bs, 0 ≤ x ∧ x ≤ 255) : sem tab (M + 1000) (d + 6) 11 [.l false (byL bs)] [] = outRd bs := by
  rw [sem_succ tab (M + 1000) (d + 5) 11 m11 rfl]
  have hl := byL_len bs
  have bad : (longF bs = bs.length → bs.length ≤ 54 → 4 ≤ bs.length → False) → goodF bs = false := fun h => by
    rw [← Bool.not_eq_true]; intro hg
    obtain ⟨g1, g2, g3⟩ := good_len hr hg
    exact h g1 g2 g3
  unfold outRd errF
  have hu' := uz32.symm
  by_cases c1 : (bs.length : Int) > 64
  · rw [bad (by omega), cond_false, if_pos (by omega)]
    unfold errR
    rw [← hl] at c1
    simp only [frC, zeF]
    generalize uL z32 = z at *
    generalize byL bs = b at *
    simp -implicitDefEqProofs (maxSteps := 1000000) (disch := first | omega | rfl) [m11, c1, hu', boxO, -List.reduceReplicate, KF, KS, getS, getO, gS, zipN, dropW, takeW, wds, stvs, sea, seaL, refs, refsL, refsEls, refsO, isPureEls, isPures, isPure, noExt, noExts, noExtEls, cellsL, ren, renL, renEls, keepO, keepS, keysO, refsS, refsOB, headC, setS, boxO, row, putW, putB, putB1, eNl, newOs, frz, renO, noExtO, zps, zp, two32, w64, -getElem?_pos, k_cnt, k_cnt0]
  have h21 := V21 (M + 900) (d + 2) bs (by omega) hr
  rw [show M + 900 + 100 = M + 1000 by omega, show d + 2 + 3 = d + 5 by omega] at h21
  rw [if_neg (show ¬ 64 < bs.length by omega)]
  by_cases c2 : longF bs = -1
  · rw [bad (by omega), cond_false, if_pos c2]
    unfold errR
    rw [c2] at h21
    rw [← hl] at c1
    simp only [frC, zeF]
    generalize uL z32 = z at *
    generalize byL bs = b at *
    simp -implicitDefEqProofs (maxSteps := 1000000) (disch := first | omega | rfl) [m11, h21, c1, hu', boxO, -List.reduceReplicate, KF, KS, getS, getO, gS, zipN, dropW, takeW, wds, stvs, sea, seaL, refs, refsL, refsEls, refsO, isPureEls, isPures, isPure, noExt, noExts, noExtEls, cellsL, ren, renL, renEls, keepO, keepS, keysO, refsS, refsOB, headC, setS, boxO, row, putW, putB, putB1, eNl, newOs, frz, renO, noExtO, zps, zp, two32, w64, -getElem?_pos, k_cnt, k_cnt0]
  rw [if_neg c2]
  by_cases c3 : longF bs = bs.length ∧ longF bs ≠ 2
  · obtain ⟨c3, c4⟩ := c3
    have h3 : 3 ≤ bs.length := by
      rcases long_cases bs hr with h | h <;> omega
    have h2 : 2 < bs.length := by omega
    have hk := hr bs[2] (List.getElem_mem h2)
    have hx : (byL bs)[2]? = some [.i .u8 bs[2]] := by simp [byL, h2]
    have hg : bs.getD 2 0 = bs[2] := by simp [List.getD, h2]
    rw [← gdK_seem, seemF, hg]
    generalize bs[2] = k at *
    cases hi : inB k 0 6
    · have hp : plainF (getF k bs) = false := by
        have : (getF k bs).kind = k := by
          have hh : ¬ (0 ≤ k ∧ k ≤ 6) := by intro h; simp [inB, h.1, h.2] at hi
          unfold getF
          rw [if_neg (by omega), if_neg (by omega), if_neg (by omega), if_neg (by omega), if_neg (by omega), if_neg (by omega)]
        exact plain_kind _ (by rw [this]; exact hi)
      have : gdK k bs = false := by unfold gdK; rw [hp]; rfl
      rw [this, cond_false]
      exact R11x M d k bs hi hk (by omega) h3 hr c3 hx
    · rcases kinds hi with e | e | e | e | e | e | e <;> subst e
      · exact R11_0 M d bs (by omega) h3 hr c3 hx
      · exact R11_1 M d bs (by omega) h3 hr c3 hx
      · exact R11_2 M d bs (by omega) h3 hr c3 hx
      · exact R11_3 M d bs (by omega) h3 hr c3 hx
      · exact R11_4 M d bs (by omega) h3 hr c3 hx
      · exact R11_5 M d bs (by omega) h3 hr c3 hx
      · exact R11_6 M d bs (by omega) h3 hr c3 hx
  · rw [bad (by omega), cond_false]
    unfold errR
    have c2' : (longF bs == -1) = false := by simp [c2]
    by_cases c4 : longF bs = bs.length
    · have c5 : longF bs = 2 := by omega
      have c6 : (bs.length : Int) = 2 := by omega
      rw [c5] at h21
      rw [← hl] at c1 c6
      simp only [frC, zeF]
      generalize uL z32 = z at *
      generalize byL bs = b at *
      simp -implicitDefEqProofs (maxSteps := 1000000) (disch := first | omega | rfl) [m11, h21, c1, c6, hu', boxO, -List.reduceReplicate, KF, KS, getS, getO, gS, zipN, dropW, takeW, wds, stvs, sea, seaL, refs, refsL, refsEls, refsO, isPureEls, isPures, isPure, noExt, noExts, noExtEls, cellsL, ren, renL, renEls, keepO, keepS, keysO, refsS, refsOB, headC, setS, boxO, row, putW, putB, putB1, eNl, newOs, frz, renO, noExtO, zps, zp, two32, w64, -getElem?_pos, k_cnt, k_cnt0]
    · have c5 : (longF bs != (bs.length : Int)) = true := by simp [c4]
      generalize longF bs = l at *
      rw [← hl] at c1 c5
      simp only [frC, zeF]
      generalize uL z32 = z at *
      generalize byL bs = b at *
      simp -implicitDefEqProofs (maxSteps := 1000000) (disch := first | omega | rfl) [m11, h21, c1, c2', c5, hu', boxO, -List.reduceReplicate, KF, KS, getS, getO, gS, zipN, dropW, takeW, wds, stvs, sea, seaL, refs, refsL, refsEls, refsO, isPureEls, isPures, isPure, noExt, noExts, noExtEls, cellsL, ren, renL, renEls, keepO, keepS, keysO, refsS, refsOB, headC, setS, boxO, row, putW, putB, putB1, eNl, newOs, frz, renO, noExtO, zps, zp, two32, w64, -getElem?_pos, k_cnt, k_cnt0]
end
section
theorem awake4 : sem tab 1000 8 9 [] [] = some (.b true, []) := by
  kernel_rfl
end
section
theorem chars_injF : ∀ xs ys : List Int, (∀ x ∈ xs, 0 ≤ x ∧ x ≤ 255) → (∀ x ∈ ys, 0 ≤ x ∧ x ≤ 255) → chars xs = chars ys → xs = ys
  | [], [], _, _, _ => rfl
  | [], _ :: _, _, _, h => by simp [chars] at h
  | _ :: _, [], _, _, h => by simp [chars] at h
  | x :: r, y :: s, hx, hy, h => by
    simp only [chars, List.map_cons, List.cons.injEq] at h
    have h1 := chars_injF r s (fun z hz => hx z (List.mem_cons_of_mem _ hz)) (fun z hz => hy z (List.mem_cons_of_mem _ hz)) (by simpa [chars] using h.2)
    have h2 := congrArg UInt8.toNat h.1
    have a := hx x (by simp)
    have b := hy y (by simp)
    rw [UInt8.toNat_ofNat', UInt8.toNat_ofNat'] at h2
    rw [h1, show x = y by omega]
theorem dec_charsF (xs ys : List Int) (hx : ∀ x ∈ xs, 0 ≤ x ∧ x ≤ 255) (hy : ∀ x ∈ ys, 0 ≤ x ∧ x ≤ 255) : decide (chars xs = chars ys) = decide (xs = ys) := by
  by_cases h : xs = ys
  · simp [h]
  · rw [decide_eq_false h, decide_eq_false (fun e => h (chars_injF xs ys hx hy e))]
theorem take_put (l : List Int) : List.take l.length (byL l) = byL l := List.take_of_length_le (by rw [byL_len]; exact Nat.le_refl _)
theorem eSt_frn (neg : Bool) (f g : Fra) (hf : f.tag.length = 32) (hg : g.tag.length = 32) : eSt neg [.i, .i, .i, .i, .i, .i, .i, .i, .a 32] (.agg (frC f)) (.agg (frC g)) = some (.b (eqFr f g ^^ neg)) := by
  have h := eqIs_uL f.tag g.tag (by rw [hf, hg])
  simp only [eSt, frC, eqSh, eqS1, if_pos rfl, andRR, andR, and_self, h, notR, eqFr]
  simp
theorem R0L : sem tab 1000 8 11 [.l false []] [] = errR 4 := V11 0 2 [] (by decide) (fun _ h => by cases h)
theorem V10L (f : Fra) (o : okF f) : sem tab 1000 8 10 [.agg (frC f)] [] = cond (plainF f) (some (.tup [.sl 0 0 0 (putF f).length, .b true], [row (byL (putF f)) 1 true])) (some (.tup [.sl 0 0 0 0, .b false], [row [] 1 true])) := V10 900 3 f o
theorem V17L (f : Fra) (o : okF f) : sem tab 1000 8 17 [.agg (frC f)] [] = cond (plainF f && tagdF f.kind) (some (.sl 0 0 0 (aheadF f.kind), [row (byL (frontF f)) 1 true])) (some (.sl 0 0 0 0, [row [] 1 true])) := V17 900 3 f o
theorem V11L (bs : List Int) (hb : bs.length ≤ 10000) (hr : ∀ x ∈ bs, 0 ≤ x ∧ x ≤ 255) : sem tab 1000 8 11 [.l false (byL bs)] [] = outRd bs := V11 0 2 bs hb hr
end
end Go.Proofs.Ytmhpkdcnhgmblaa
