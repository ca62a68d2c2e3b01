/- Plain lemmas of mac. -/
import Derived.Test.YtcimkkcajkmfoaaDoorPureBase
set_option linter.all false
set_option linter.unusedSimpArgs false
set_option linter.unusedVariables false
namespace Go.Proofs.YtcimkkcajkmfoaaDoor
open Go
/-! ## PureL -/
section
section
variable (ob : OB) (d o v i n w : Nat) (g : Bool) (X : Obj')
theorem k_cpy (x y : PV) : cpy ob w x y = cpC ob w x (cont ob y) := rfl
theorem k_cpC (xs : List (List PV)) (x : PV) : cpC ob w x (some (g, xs)) = cpX ob w g xs x := rfl
theorem k_cpX (xs : List (List PV)) : cpX ob w g xs (.sl o v i n) = cpyO o v i n w g xs (getO ob o) := rfl
theorem k_cpyO (xs : List (List PV)) : cpyO o v i n w g xs (some X) = if X.ver = v ∧ X.w = w ∧ X.pu = true ∧ X.fro = false ∧ i + n ≤ X.els.length ∧ allW w xs = true then
      some (.i .i64 (min xs.length n : Nat), [(o, { X with els := X.els.take i ++ (xs.take (min xs.length n) ++ X.els.drop (i + min xs.length n)), g := X.g && (g || flatEls xs) })])
    else none := rfl
theorem k_slcA : slc ob (.arr n) (.p o 0 0 0 none) none none none = slB o 0 0 n (some 0) (some n) := rfl
theorem k_slB (l h : Int) : slB o d i n (some l) (some h) = if 0 ≤ l ∧ l ≤ h ∧ h ≤ n then some (.bs o d (i + l.toNat) (h.toNat - l.toNat), []) else none := rfl
theorem k_cont_bs : cont ob (.bs o v i n) = contL ob (.bs o v i n) := rfl
end
def zrow (n : Nat) : List (List PV) := List.replicate n [.i .u8 0]
theorem zrow_len (n : Nat) : (zrow n).length = n := by simp [zrow]
theorem zrow_drop (n m : Nat) : (zrow n).drop m = zrow (n - m) := by simp [zrow]
theorem zrow_by (n : Nat) : zrow n = byL (List.replicate n 0) := by simp [zrow, byL]
theorem k_mks (ob : OB) (d n : Nat) (h : n ≤ 4294967296) : mks ob d [.i .u8 0] (.i .i64 n) = newX d { els := zrow n, w := 1, pu := true, g := true, cap := some n, ver := 0, fro := false } (.sl d 0 0 n) (getO ob d) := by
  have h1 : (0 : Int) ≤ n := by omega
  have h2 : (n : Int) ≤ two32 := by simp only [two32]; omega
  simp [mks, h1, h2, zps, zp, isPures, isPure, zrow, wds, wd]
theorem k_mks64 (ob : OB) (d : Nat) : mks ob d [.i .u8 0] (.i .i64 64) = newX d { els := zrow 64, w := 1, pu := true, g := true, cap := some 64, ver := 0, fro := false } (.sl d 0 0 64) (getO ob d) := k_mks ob d 64 (by omega)
theorem uL_by (o : List Int) : (uL o).map (fun v => [v]) = byL o := by simp [uL, byL]
noncomputable def sumI (ys : List Int) : List Int := endI (rounds nFirst ys).1 (rounds nFirst ys).2 ys.length
theorem sumI_len (ys : List Int) : (sumI ys).length = 32 := endI_len _ _ _ (rounds_len _ nFirst ys (Nat.le_refl _) rfl).1
noncomputable def blockI (xs : List Int) : List Int := if 64 < xs.length then sumI xs ++ List.replicate 32 0 else xs ++ List.replicate (64 - xs.length) 0
theorem blockI_len (xs : List Int) : (blockI xs).length = 64 := by
  unfold blockI
  split
  · simp [sumI_len]
  · simp; omega
set_option maxHeartbeats 4000000 in
/-- A key's block. -/
theorem L31 (M d : Nat) (xs : List Int) (h : xs.length ≤ 57600) : sem tab (M + 1000) (d + 8) 78 [.l false (byL xs)] [] = some (.sl 0 0 0 64, [row (byL (blockI xs)) 1 true]) := by
  rw [sem_succ tab (M + 1000) (d + 7) 78 m78 rfl]
  have h26 := L26 M d xs h
  have hlx := byL_len xs
  have wx := allW_by xs
  have fx := flat_by xs
  by_cases f : 64 < xs.length
  · change _ = some (PV.agg [PV.blob 32 (uL (sumI xs))], []) at h26
    have hB : byL (blockI xs) = byL (sumI xs) ++ zrow 32 := by
      rw [blockI, if_pos f, zrow_by, byL_app]
    have hu := uL_by (sumI xs)
    have hul := uL_len (sumI xs)
    have hsl := byL_len (sumI xs)
    rw [sumI_len] at hul hsl
    have ws := allW_by (sumI xs)
    have fs := flat_by (sumI xs)
    rw [← hlx] at f
    have f1 : (a : Nat) → (a : Int) = a := fun _ => rfl
    generalize byL (blockI xs) = B at *
    generalize byL (sumI xs) = s at *
    generalize uL (sumI xs) = u at *
    generalize byL xs = a at *
    have f2 : (a.length : Int) > 64 := by omega
    have f3 : 64 < (a.length : Int) := by omega
    have hts : List.take 32 s = s := List.take_of_length_le (by omega)
    have htu : List.take 32 u = u := List.take_of_length_le (by omega)
    generalize hz : List.replicate 32 (PV.i IntKind.u8 0) = zz at *
    have hlz : (s ++ zrow 32).length = 64 := by rw [List.length_append, zrow_len, hsl]
    have htz : List.take 64 (s ++ zrow 32) = s ++ zrow 32 := List.take_of_length_le (by omega)
    simp -implicitDefEqProofs (maxSteps := 1000000) (disch := first | omega | rfl) [m78, hz, h26, f, f2, f3, hB, hu, hul, hsl, hts, htu, ws, fs, htz, k_mks64, k_cpy, k_cpC, k_cpX, k_cpyO, k_slcA, k_slB, k_cont_bs, zrow_len, zrow_drop, KS, getS, getO, gS, zipN, dropW, takeW, wds, stvs, sea, seaL, refs, refsL, refsEls, refsO, isPureEls, isPures, isPure, noExt, noExts, noExtEls, cellsL, ren, renL, renEls, keepO, keepS, keysO, refsS, refsOB, cntN, headC, setS, boxO, row, putW, putB, putB1, eNl, newOs, frz, renO, noExtO, zps, zp, two32, w64, -getElem?_pos]
  · have hB : byL (blockI xs) = byL xs ++ zrow (64 - xs.length) := by
      rw [blockI, if_neg f, zrow_by, byL_app]
    rw [← hlx] at f hB
    generalize byL (blockI xs) = B at *
    generalize byL xs = a at *
    have f2 : ¬ ((a.length : Int) > 64) := by omega
    have f3 : ¬ (64 < (a.length : Int)) := by omega
    have hm : min a.length 64 = a.length := by omega
    have hta : List.take a.length a = a := List.take_length
    have hlz : (a ++ zrow (64 - a.length)).length = 64 := by rw [List.length_append, zrow_len]; omega
    have htz : List.take 64 (a ++ zrow (64 - a.length)) = a ++ zrow (64 - a.length) := List.take_of_length_le (by omega)
    have hlz2 : 64 ≤ a.length + (64 - a.length) := by omega
    simp -implicitDefEqProofs (maxSteps := 1000000) (disch := first | omega | rfl) [m78, f, f2, f3, hB, hm, hta, wx, fx, htz, hlz2, k_mks64, k_cpy, k_cpC, k_cpX, k_cpyO, zrow_len, zrow_drop, KS, getS, getO, gS, zipN, dropW, takeW, wds, stvs, sea, seaL, refs, refsL, refsEls, refsO, isPureEls, isPures, isPure, noExt, noExts, noExtEls, cellsL, ren, renL, renEls, keepO, keepS, keysO, refsS, refsOB, cntN, headC, setS, boxO, row, putW, putB, putB1, eNl, newOs, frz, renO, noExtO, zps, zp, two32, w64, -getElem?_pos]
end
/-! ## PureM -/
section
def xorI (c x : Int) : Int := IntKind.u8.wrap ((BitVec.ofInt 8 x ^^^ BitVec.ofInt 8 c).toNat)
noncomputable def padI (xs : List Int) (c : Int) : List Int := (blockI xs).map (xorI c)
theorem padI_len (xs : List Int) (c : Int) : (padI xs c).length = 64 := by simp [padI, blockI_len]
def sl29 (c k : Int) : SL := [(1, .i .u8 c), (5, .sl 136 0 0 64), (6, .i .i64 k)]
def ob29 (t : List (List PV)) : OB := [(136, row t 1 true)]
theorem byL_set (xs : List Int) (j : Nat) (y : Int) : (byL xs).set j [.i .u8 y] = byL (xs.set j y) := by simp [byL, List.map_set]
/-- The first k turned. -/
theorem set_map {f : Int → Int} {bs : List Int} {k : Nat} (h : k < bs.length) : ((bs.take k).map f ++ bs.drop k).set k (f bs[k]) = (bs.take (k + 1)).map f ++ bs.drop (k + 1) := by
  have hl : ((bs.take k).map f).length = k := by simp; omega
  rw [List.set_append_right _ _ (by omega), hl, Nat.sub_self, List.drop_eq_getElem_cons h, List.set_cons_zero, List.take_succ_eq_append_getElem h, List.map_append, List.append_assoc]
  rfl
end
/-! ## PureN -/
section
def hz10 (zz : List PV) : List PV := [.blob 8 zz, .e true, .i .i64 0]
def sl41 (c k : Int) : SL := [(0, .i .u8 c), (3, .p 88 0 0 0 none), (4, .sl 103 0 0 64), (10, .sl 1 0 0 64), (11, .i .i64 64), (12, .i .i64 k)]
def ob41 (zz : List PV) (b t : List (List PV)) : OB := [(103, row t 1 true), (88, box (hz10 zz) 10), (0, box [.sl 1 0 0 64] 1), (1, row b 1 true)]
set_option maxHeartbeats 4000000 in
theorem step41 (N d : Nat) (g : SL → OB → Option R) (zz : List PV) (b t : List (List PV)) (c x y : Int) (k : Nat) (hk : k < 64) (hl : t.length = 64) (hb : b.length = 64) (ht : b[k]? = some [.i .u8 x]) (hy : t[k]? = some [.i .u8 y]) :
    m79b0 (sem tab N d) N [box [.sl 1 0 0 64] 1, row b 1 true] g (sl41 c k) (ob41 zz b t) = g (sl41 c (k + 1 : Nat)) (ob41 zz b (t.set k [.i .u8 (xorI c x)])) := by
  have c1 : (k : Int) < 64 := by omega
  have c3 : (0 : Int) ≤ k := by omega
  simp -implicitDefEqProofs (maxSteps := 1000000) (disch := first | omega | rfl) [m79b0, sl41, ob41, hz10, box, hk, c1, c3, hl, hb, ht, hy, KS, getS, getO, gS, zipN, dropW, takeW, wds, stvs, sea, seaL, refs, refsL, refsEls, refsO, isPureEls, isPures, isPure, noExt, noExts, noExtEls, cellsL, ren, renL, renEls, keepO, keepS, keysO, refsS, refsOB, cntN, headC, setS, boxO, row, putW, putB, putB1, eNl, newOs, frz, renO, noExtO, zps, zp, two32, w64, -getElem?_pos]
  rfl
set_option maxHeartbeats 4000000 in
theorem end41 (M d : Nat) (g : SL → OB → Option R) (zz : List PV) (b : List (List PV)) (ts : List Int) (c : Int) (hl : ts.length = 64) :
    m79b0 (sem tab (M + 1000) (d + 6)) (M + 1000) [box [.sl 1 0 0 64] 1, row b 1 true] g (sl41 c 64) (ob41 zz b (byL ts)) = some (hashV (rounds nFirst ts).1 true (rounds nFirst ts).2 64, [box [.sl 1 0 0 64] 1, row b 1 true]) := by
  have h21 := L21 (M + 1000) (d + 5)
  have h19 := L19 M d nFirst [] ts 0 rfl may_zero (by omega) (by simp; omega)
  rw [List.nil_append, Int.zero_add, hl, show ((64 : Nat) : Int) = 64 from rfl] at h19
  have hlt := byL_len ts
  rw [hl] at hlt
  have ht : List.take 64 (byL ts) = byL ts := List.take_of_length_le (by omega)
  have hb0 : byL [] = [] := rfl
  simp only [hashV_wL, hb0] at h21 h19 ⊢
  generalize byL (rounds nFirst ts).2 = q at *
  generalize wL (rounds nFirst ts).1 = r2 at *
  generalize wL nFirst = r at *
  generalize byL ts = t at *
  simp -implicitDefEqProofs (maxSteps := 1000000) (disch := first | omega | rfl) [m79b0, sl41, ob41, hz10, box, hlt, ht, h21, h19, fin, resOs, refsOuts, refsX, outOs, outX, seaEls, seaL, one, KS, getS, getO, gS, zipN, dropW, takeW, wds, stvs, sea, seaL, refs, refsL, refsEls, refsO, isPureEls, isPures, isPure, noExt, noExts, noExtEls, cellsL, ren, renL, renEls, keepO, keepS, keysO, refsS, refsOB, cntN, headC, setS, boxO, row, putW, putB, putB1, eNl, newOs, frz, renO, noExtO, zps, zp, two32, w64, -getElem?_pos]
/-- The first k turned, noughts behind. -/
theorem set_map0 {f : Int → Int} {bs : List Int} {k : Nat} (h : k < bs.length) (hb : bs.length = 64) : ((bs.take k).map f ++ List.replicate (64 - k) 0).set k (f bs[k]) = (bs.take (k + 1)).map f ++ List.replicate (64 - (k + 1)) 0 := by
  have hl : ((bs.take k).map f).length = k := by simp; omega
  rw [List.set_append_right _ _ (by omega), hl, Nat.sub_self, show 64 - k = (64 - (k + 1)) + 1 by omega, List.replicate_succ, List.set_cons_zero, List.take_succ_eq_append_getElem h, List.map_append, List.append_assoc]
  rfl
theorem loop41 (bs : List Int) (hb : bs.length = 64) (zz : List PV) (c : Int) : ∀ (n k : Nat), k + n = 64 → ∀ M d M' : Nat, loopC (m79b0 (sem tab (M + 1000) (d + 6)) (M + 1000) [box [.sl 1 0 0 64] 1, row (byL bs) 1 true]) (M' + 1 + n) (sl41 c k) (ob41 zz (byL bs) (byL ((bs.take k).map (xorI c) ++ List.replicate (64 - k) 0))) = some (hashV (rounds nFirst (bs.map (xorI c))).1 true (rounds nFirst (bs.map (xorI c))).2 64, [box [.sl 1 0 0 64] 1, row (byL bs) 1 true]) := by
  intro n
  induction n with
  | zero =>
    intro k hk M d M'
    have : k = 64 := by omega
    subst this
    have e : (bs.take 64).map (xorI c) ++ List.replicate (64 - 64) 0 = bs.map (xorI c) := by rw [List.take_of_length_le (by omega), Nat.sub_self, List.replicate_zero, List.append_nil]
    rw [Nat.add_zero, k_loop, e, show ((64 : Nat) : Int) = 64 from rfl, end41 _ _ _ _ _ _ _ (by rw [List.length_map, hb])]
  | succ n ih =>
    intro k hk M d M'
    have hkb : k < bs.length := by omega
    have hl' : ((bs.take k).map (xorI c)).length = k := by simp; omega
    have hl : ((bs.take k).map (xorI c) ++ List.replicate (64 - k) 0).length = 64 := by simp; omega
    have gx : ((bs.take k).map (xorI c) ++ List.replicate (64 - k) 0)[k]? = some 0 := by
      rw [List.getElem?_append_right (by omega), hl', Nat.sub_self, List.getElem?_replicate, if_pos (by omega)]
    rw [show M' + 1 + (n + 1) = (M' + 1 + n) + 1 by omega, k_loop, step41 (M + 1000) (d + 6) _ zz (byL bs) _ c bs[k] 0 k (by omega) (by rw [byL_len]; exact hl) (by rw [byL_len]; exact hb) (by rw [byL_get, List.getElem?_eq_getElem hkb]; rfl) (by rw [byL_get, gx]; rfl), byL_set, set_map0 hkb hb]
    exact ih (k + 1) (by omega) M d M'
set_option maxHeartbeats 4000000 in
/-- The closure: a state that a turned block was added to. -/
theorem L41 (M d : Nat) (bs : List Int) (hb : bs.length = 64) (c : Int) : sem tab (M + 1000) (d + 7) 79 [.i .u8 c, .p 0 0 0 0 none] [box [.sl 1 0 0 64] 1, row (byL bs) 1 true] = some (hashV (rounds nFirst (bs.map (xorI c))).1 true (rounds nFirst (bs.map (xorI c))).2 64, [box [.sl 1 0 0 64] 1, row (byL bs) 1 true]) := by
  rw [sem_succ tab (M + 1000) (d + 6) 79 m79 rfl]
  have h := loop41 bs hb (List.replicate 8 (.i .u32 0)) c 64 0 rfl M d (M + 935)
  rw [List.take_zero, List.map_nil, List.nil_append, Nat.sub_zero, ← zrow_by] at h
  have hbl := byL_len bs
  rw [hb] at hbl
  generalize hashV (rounds nFirst (bs.map (xorI c))).1 true (rounds nFirst (bs.map (xorI c))).2 64 = v at *
  generalize byL bs = b at *
  generalize hz : List.replicate 8 (PV.i IntKind.u32 0) = zz at *
  have zl := zrow_len 64
  generalize hzr : zrow 64 = zr at *
  simp only [sl41, ob41, hz10, box, row] at h
  simp -implicitDefEqProofs (maxSteps := 1000000) (disch := first | omega | rfl) [m79, hz, hzr, zl, hbl, box, k_mks64, KS, getS, getO, gS, zipN, dropW, takeW, wds, stvs, sea, seaL, refs, refsL, refsEls, refsO, isPureEls, isPures, isPure, noExt, noExts, noExtEls, cellsL, ren, renL, renEls, keepO, keepS, keysO, refsS, refsOB, cntN, headC, setS, boxO, row, putW, putB, putB1, eNl, newOs, frz, renO, noExtO, zps, zp, two32, w64, -getElem?_pos]
  exact h
end
/-! ## PureO -/
section
set_option maxHeartbeats 4000000 in
theorem k_cav (Φ : Sem') (ob : OB) (n : Nat) (c L : Int) (b q : List (List PV)) (r : List PV) (h1 : getO ob 104 = some (box [.sl 136 0 0 64] 1)) (h2 : getO ob 136 = some (row b 1 true))
    (h : Φ 79 [.i .u8 c, .p 0 0 0 0 none] [box [.sl 1 0 0 64] 1, row b 1 true] = some (.agg [.blob 8 r, .l true q, .i .i64 L], [box [.sl 1 0 0 64] 1, row b 1 true])) :
    cav Φ ob n false (.fn 79 [] [.p 104 0 0 0 none]) [.i .u8 c] = some (.agg [.blob 8 r, .l true q, .i .i64 L], [(104, box [.sl 136 0 0 64] 1), (136, row b 1 true)]) := by
  simp only [box, row] at h h1 h2 ⊢
  simp [cav, ca, hand, reifies, reify, reify0, refs, refsL, refsEls, refsO, reach, h1, h2, getOs, idx, renL, ren, renEls, renO, h, back, putOs, newOs, nth]
theorem sum_agg (ys zs : List Int) (hl : ys.length = 64) (M d : Nat) (hz : zs.length ≤ 57000) :
    sem tab (M + 1000) (d + 6) 64 [hashV (rounds nFirst ys).1 false (rounds nFirst ys).2 64, .l false (byL zs)] [] = some (hashV (rounds nFirst (ys ++ zs)).1 true (rounds nFirst (ys ++ zs)).2 (ys ++ zs).length, []) := by
  obtain ⟨l1, l2⟩ := rounds_len _ nFirst ys (Nat.le_refl _) rfl
  have f6 : mayB (rounds nFirst ys).2.length 64 = true := by
    have : (rounds nFirst ys).2.length = 0 := by rw [l2, hl]
    rw [this]; decide
  have h := L19 M d _ _ zs _ l1 f6 (by omega) (by rw [l2]; omega)
  rw [← rounds_app _ nFirst ys zs (Nat.le_refl _), show (64 : Int) + zs.length = (ys ++ zs).length by simp [hl]] at h
  exact h
theorem end_agg (ys : List Int) (M d : Nat) : sem tab (M + 1000) (d + 6) 63 [hashV (rounds nFirst ys).1 false (rounds nFirst ys).2 ys.length] [] = some (.agg [.blob 32 (uL (sumI ys))], []) :=
  L24 M d _ _ _ (rounds_len _ nFirst ys (Nat.le_refl _) rfl).1
noncomputable def tagI (xs ys : List Int) : List Int := sumI (padI xs 92 ++ sumI (padI xs 54 ++ ys))
theorem tagI_len (xs ys : List Int) : (tagI xs ys).length = 32 := sumI_len _
set_option maxHeartbeats 8000000 in
/-- A tag. -/
theorem L30 (M d : Nat) (xs ys : List Int) (hx : xs.length ≤ 57600) (hy : ys.length ≤ 57000) : sem tab (M + 1000) (d + 9) 58 [.l false (byL xs), .l false (byL ys)] [] = some (.agg [.blob 32 (uL (tagI xs ys))], []) := by
  rw [sem_succ tab (M + 1000) (d + 8) 58 m58 rfl]
  have h31 := L31 M d xs hx
  have i1 := L41 M (d + 1) (blockI xs) (blockI_len xs) 54
  have i2 := L41 M (d + 1) (blockI xs) (blockI_len xs) 92
  change _ = some (hashV (rounds nFirst (padI xs 54)).1 true (rounds nFirst (padI xs 54)).2 64, _) at i1
  change _ = some (hashV (rounds nFirst (padI xs 92)).1 true (rounds nFirst (padI xs 92)).2 64, _) at i2
  have a1 := sum_agg (padI xs 54) ys (padI_len xs 54) M (d + 2) hy
  have e1 := end_agg (padI xs 54 ++ ys) M (d + 2)
  have a2 := sum_agg (padI xs 92) (sumI (padI xs 54 ++ ys)) (padI_len xs 92) M (d + 2) (by rw [sumI_len]; omega)
  have e2 := end_agg (padI xs 92 ++ sumI (padI xs 54 ++ ys)) M (d + 2)
  change _ = some (PV.agg [PV.blob 32 (uL (tagI xs ys))], []) at e2
  have hu := uL_by (sumI (padI xs 54 ++ ys))
  have hul := uL_len (sumI (padI xs 54 ++ ys))
  rw [sumI_len] at hul
  simp only [hashV_wL] at i1 i2 a1 a2 e1 e2
  generalize uL (tagI xs ys) = T at *
  generalize byL (rounds nFirst (padI xs 92 ++ sumI (padI xs 54 ++ ys))).2 = q4 at *
  generalize wL (rounds nFirst (padI xs 92 ++ sumI (padI xs 54 ++ ys))).1 = r4 at *
  generalize ((padI xs 92 ++ sumI (padI xs 54 ++ ys)).length : Int) = n4 at *
  generalize byL (rounds nFirst (padI xs 54 ++ ys)).2 = q3 at *
  generalize wL (rounds nFirst (padI xs 54 ++ ys)).1 = r3 at *
  generalize ((padI xs 54 ++ ys).length : Int) = n3 at *
  generalize byL (sumI (padI xs 54 ++ ys)) = s at *
  generalize uL (sumI (padI xs 54 ++ ys)) = u at *
  generalize byL (rounds nFirst (padI xs 54)).2 = q1 at *
  generalize wL (rounds nFirst (padI xs 54)).1 = r1 at *
  generalize byL (rounds nFirst (padI xs 92)).2 = q2 at *
  generalize wL (rounds nFirst (padI xs 92)).1 = r2 at *
  generalize byL (blockI xs) = b at *
  generalize byL xs = a at *
  generalize byL ys = c at *
  generalize hz : List.replicate 32 (PV.i IntKind.u8 0) = zz at *
  have htu : List.take 32 u = u := List.take_of_length_le (by omega)
  have k1 := fun (Y : Obj') (l : OB) (n : Nat) => k_cav (sem tab (M + 1000) (d + 8)) ((104, box [.sl 136 0 0 64] 1) :: (104, Y) :: (136, row b 1 true) :: l) n 54 64 b q1 r1 rfl rfl i1
  have k2 := fun (Y Z : Obj') (l : OB) (n : Nat) => k_cav (sem tab (M + 1000) (d + 8)) ((120, Y) :: (120, Z) :: (104, box [.sl 136 0 0 64] 1) :: (136, row b 1 true) :: l) n 92 64 b q2 r2 rfl rfl i2
  simp only [box, row] at k1 k2
  simp -implicitDefEqProofs (maxSteps := 1000000) (disch := first | omega | rfl) [m58, hz, h31, k1, k2, a1, a2, e1, e2, hu, hul, htu, box, k_slcA, k_slB, k_cont_bs, KS, getS, getO, gS, zipN, dropW, takeW, wds, stvs, sea, seaL, refs, refsL, refsEls, refsO, isPureEls, isPures, isPure, noExt, noExts, noExtEls, cellsL, ren, renL, renEls, keepO, keepS, keysO, refsS, refsOB, cntN, headC, setS, boxO, row, putW, putB, putB1, eNl, newOs, frz, renO, noExtO, zps, zp, two32, w64, -getElem?_pos]
end
/-! ## PureP -/
section
theorem k_s2b (ob : OB) (d : Nat) (z : List UInt8) : s2b ob d (.s z) = newX d (row (z.map fun c => [.i .u8 c.toNat]) 1 true) (.sl d 0 0 z.length) (getO ob d) := rfl
/-- A text's letters, as numbers. -/
def ltr (s : List UInt8) : List Int := s.map fun c => (c.toNat : Int)
theorem ltr_by (s : List UInt8) : (s.map fun c => [PV.i .u8 c.toNat]) = byL (ltr s) := by simp [byL, ltr]
theorem ltr_len (s : List UInt8) : (ltr s).length = s.length := by simp [ltr]
set_option maxHeartbeats 4000000 in
theorem L38t (N d : Nat) (ps xs ys : List Int) (hp : ps ≠ []) (hne : xs ≠ []) (h : ps.length + xs.length + ys.length ≤ 4294967296) : sem tab (N + 4) (d + 2) 59 [.l false [[.l false (byL ps)], [.l false (byL xs)], [.l false (byL ys)]]] [] = some (.sl 0 0 0 (ps.length + xs.length + ys.length), [row (byL (ps ++ xs ++ ys)) 1 true]) := by
  rw [sem_succ tab (N + 4) (d + 1) 59 m59 rfl]
  have hq := byL_len ps
  have hx := byL_len xs
  have hy := byL_len ys
  have fq := flat_by ps
  have fx := flat_by xs
  have fy := flat_by ys
  have wq := allW_by ps
  have wx := allW_by xs
  have wy := allW_by ys
  have hap : byL (ps ++ xs ++ ys) = byL ps ++ byL xs ++ byL ys := by simp [byL]
  have hxl : 0 < xs.length := List.length_pos_iff.2 hne
  have hpl : 0 < ps.length := List.length_pos_iff.2 hp
  rw [hap]
  generalize byL ps = p at *
  generalize byL xs = a at *
  generalize byL ys = b at *
  rw [← hx] at hxl
  rw [← hq] at hpl
  rw [← hq, ← hx, ← hy] at h ⊢
  have ha : ¬ a = [] := by rintro rfl; simp at hxl
  have hpp : ¬ p = [] := by rintro rfl; simp at hpl
  have n00 : ¬ ((p.length : Int) < 0) := by omega
  have n0 : ¬ ((p.length : Int) + a.length < 0) := by omega
  have n1 : ¬ ((a.length : Int) < 0) := by omega
  have n3 : ¬ ((b.length : Int) < 0) := by omega
  have n2 : ¬ ((p.length : Int) + (a.length : Int) + b.length < 0) := by omega
  have h0 : p.length ≤ 4294967296 := by omega
  have h1 : p.length + a.length ≤ 4294967296 := by omega
  have h2 : b.length ≤ 4294967296 := by omega
  have h4 : ¬ (p.length + a.length ≤ p.length) := by omega
  have t0 : List.take p.length p = p := List.take_length
  have t1 : List.take (p.length + a.length) (p ++ a) = p ++ a := List.take_of_length_le (by simp)
  clear hx hy hap hne hq hp
  by_cases hb : b = []
  · subst hb
    simp -implicitDefEqProofs (maxSteps := 1000000) (disch := first | omega | rfl) [m59, m59b0, m59b1, L44', allW, flatEls, n00, n0, n1, n2, h0, h1, h4, fq, wq, fx, wx, ha, hpp, t0, t1, KS, getS, getO, gS, zipN, dropW, takeW, wds, stvs, sea, seaL, refs, refsL, refsEls, refsO, isPureEls, isPures, isPure, noExt, noExts, noExtEls, cellsL, ren, renL, renEls, keepO, keepS, keysO, refsS, refsOB, cntN, headC, setS, boxO, row, putW, putB, putB1, eNl, newOs, frz, renO, noExtO, zps, zp, two32, w64, -getElem?_pos]
  · have h3 : ¬ (p.length + a.length + b.length ≤ p.length + a.length) := by
      have := List.length_pos_iff.2 hb
      omega
    have h3' : p.length + a.length + b.length = p.length + (a.length + b.length) := by omega
    have t2 : List.take (p.length + (a.length + b.length)) (p ++ (a ++ b)) = p ++ (a ++ b) := List.take_of_length_le (by simp)
    have hN : p.length + (a.length + b.length) ≤ 4294967296 := by omega
    have h3N : ¬ (p.length + (a.length + b.length) ≤ p.length + a.length) := by omega
    have bp : 0 < b.length := List.length_pos_iff.2 hb
    simp -implicitDefEqProofs (maxSteps := 1000000) (disch := first | omega | rfl) [m59, m59b0, m59b1, L44', n00, n0, n1, n2, n3, h0, h1, h2, h3', hN, h3N, bp, h4, fq, wq, fx, wx, fy, wy, ha, hpp, hb, t0, t1, t2, KS, getS, getO, gS, zipN, dropW, takeW, wds, stvs, sea, seaL, refs, refsL, refsEls, refsO, isPureEls, isPures, isPure, noExt, noExts, noExtEls, cellsL, ren, renL, renEls, keepO, keepS, keysO, refsS, refsOB, cntN, headC, setS, boxO, row, putW, putB, putB1, eNl, newOs, frz, renO, noExtO, zps, zp, two32, w64, -getElem?_pos]
end
/-! ## PureQ -/
section
theorem L38u (M d : Nat) (n : Int) (xs ys : List Int) (hne : xs ≠ []) (h : xs.length + ys.length ≤ 4294967295) : sem tab (M + 1000) (d + 2) 59 [.l false [[.l false [[.i .u8 n]]], [.l false (byL xs)], [.l false (byL ys)]]] [] = some (.sl 0 0 0 (1 + xs.length + ys.length), [row (byL ([n] ++ xs ++ ys)) 1 true]) :=
  L38t (M + 996) d [n] xs ys (by simp) hne (by simp only [List.length_singleton]; omega)
noncomputable def derI (xs : List Int) (s : List UInt8) (cs : List Int) : List Int := if 1 ≤ s.length ∧ s.length ≤ 32 then tagI xs ([(s.length : Int)] ++ ltr s ++ cs) else List.replicate 32 0
theorem derI_len (xs : List Int) (s : List UInt8) (cs : List Int) : (derI xs s cs).length = 32 := by
  unfold derI
  split
  · exact tagI_len _ _
  · simp
set_option maxHeartbeats 8000000 in
/-- A derived key. -/
theorem L33 (M d : Nat) (xs cs : List Int) (s : List UInt8) (hx : xs.length ≤ 57600) (hc : cs.length ≤ 50000) : sem tab (M + 1000) (d + 10) 29 [.l false (byL xs), .s s, .l false (byL cs)] [] = some (.tup [.agg [.blob 32 (uL (derI xs s cs))], .b (decide (1 ≤ s.length ∧ s.length ≤ 32))], []) := by
  rw [sem_succ tab (M + 1000) (d + 9) 29 m29 rfl]
  by_cases g1 : s = []
  · subst g1
    have hd : derI xs [] cs = List.replicate 32 0 := by rw [derI, if_neg (by simp)]
    rw [hd, ← zero32]
    generalize byL xs = a at *
    generalize byL cs = c at *
    generalize hz : List.replicate 32 (PV.i IntKind.u8 0) = zz at *
    simp -implicitDefEqProofs (maxSteps := 1000000) (disch := first | omega | rfl) [m29, hz, KS, getS, getO, gS, zipN, dropW, takeW, wds, stvs, sea, seaL, refs, refsL, refsEls, refsO, isPureEls, isPures, isPure, noExt, noExts, noExtEls, cellsL, ren, renL, renEls, keepO, keepS, keysO, refsS, refsOB, cntN, headC, setS, boxO, row, putW, putB, putB1, eNl, newOs, frz, renO, noExtO, zps, zp, two32, w64, -getElem?_pos]
  · by_cases g2 : s.length ≤ 32
    · have g3 : 0 < s.length := List.length_pos_iff.2 g1
      have hd : derI xs s cs = tagI xs ([(s.length : Int)] ++ ltr s ++ cs) := by rw [derI, if_pos ⟨by omega, g2⟩]
      have hdec : decide (1 ≤ s.length ∧ s.length ≤ 32) = true := decide_eq_true ⟨by omega, g2⟩
      rw [hdec, hd]
      have hll := ltr_len s
      have h38 := L38u M (d + 7) (s.length : Int) (ltr s) cs (by intro e; rw [e] at hll; simp at hll; omega) (by omega)
      have h30 := L30 M d xs ([(s.length : Int)] ++ ltr s ++ cs) hx (by simp; omega)
      have hbl := byL_len ([(s.length : Int)] ++ ltr s ++ cs)
      simp only [List.length_append, List.length_singleton, hll] at hbl
      have hlb := ltr_by s
      have hll2 := byL_len (ltr s)
      rw [hll] at hll2 h38
      have fl := flat_by (ltr s)
      have wl := allW_by (ltr s)
      have hcl := byL_len cs
      rw [← hcl] at h38 hbl
      generalize uL (tagI xs ([(s.length : Int)] ++ ltr s ++ cs)) = T at *
      generalize byL ([(s.length : Int)] ++ ltr s ++ cs) = w at *
      generalize byL (ltr s) = l at *
      generalize byL xs = a at *
      generalize byL cs = c at *
      generalize hz : List.replicate 32 (PV.i IntKind.u8 0) = zz at *
      have w1 : IntKind.u8.wrap (s.length : Int) = s.length := w8 (by omega) (by omega)
      have g4 : ¬ ((s.length : Int) > 32) := by omega
      have g5 : ¬ (32 < (s.length : Int)) := by omega
      have tl : List.take s.length l = l := List.take_of_length_le (by omega)
      have tw : List.take (1 + s.length + c.length) w = w := List.take_of_length_le (by omega)
      simp -implicitDefEqProofs (maxSteps := 1000000) (disch := first | omega | rfl) [m29, hz, g1, g4, g5, w1, k_s2b, hlb, hll2, fl, wl, h38, h30, hbl, tl, tw, KS, getS, getO, gS, zipN, dropW, takeW, wds, stvs, sea, seaL, refs, refsL, refsEls, refsO, isPureEls, isPures, isPure, noExt, noExts, noExtEls, cellsL, ren, renL, renEls, keepO, keepS, keysO, refsS, refsOB, cntN, headC, setS, boxO, row, putW, putB, putB1, eNl, newOs, frz, renO, noExtO, zps, zp, two32, w64, -getElem?_pos]
    · have hd : derI xs s cs = List.replicate 32 0 := by rw [derI, if_neg (fun h => g2 h.2)]
      have hdec : decide (1 ≤ s.length ∧ s.length ≤ 32) = false := decide_eq_false (fun h => g2 h.2)
      rw [hdec, hd, ← zero32]
      have g4 : (s.length : Int) > 32 := by omega
      have g5 : 32 < (s.length : Int) := by omega
      generalize byL xs = a at *
      generalize byL cs = c at *
      generalize hz : List.replicate 32 (PV.i IntKind.u8 0) = zz at *
      simp -implicitDefEqProofs (maxSteps := 1000000) (disch := first | omega | rfl) [m29, hz, g1, g4, g5, KS, getS, getO, gS, zipN, dropW, takeW, wds, stvs, sea, seaL, refs, refsL, refsEls, refsO, isPureEls, isPures, isPure, noExt, noExts, noExtEls, cellsL, ren, renL, renEls, keepO, keepS, keysO, refsS, refsOB, cntN, headC, setS, boxO, row, putW, putB, putB1, eNl, newOs, frz, renO, noExtO, zps, zp, two32, w64, -getElem?_pos]
end
end Go.Proofs.YtcimkkcajkmfoaaDoor
