import Derived.Test.YtnkapponcbgbhaaPgB
import Derived.KernelRfl
set_option linter.all false
set_option linter.unusedSimpArgs false
set_option linter.unusedVariables false
namespace Go.Proofs.Ytnkapponcbgbhaa
open Go
section
def mpP (m : Mp) : List (Int × PV) := m.map fun p => (p.1, .i .i64 p.2)
theorem mget_P (n : Int) : ∀ m : Mp, mget n (mpP m) = (mgt n m).map (.i .i64)
  | [] => rfl
  | (a, b) :: r => by
    simp only [mpP, List.map_cons, mget, mgt]
    by_cases h : n = a
    · rw [if_pos h, if_pos h]; rfl
    · rw [if_neg h, if_neg h]; exact mget_P n r
theorem mset_P (n v : Int) : ∀ m : Mp, mset n (.i .i64 v) (mpP m) = mpP (mst n v m)
  | [] => rfl
  | (a, b) :: r => by
    simp only [mpP, List.map_cons, mset, mst]
    by_cases h : n = a
    · rw [if_pos h, if_pos h]; rfl
    · rw [if_neg h, if_neg h]
      simp only [List.map_cons]
      exact congrArg _ (mset_P n v r)
def bkO (us : List Us) (o : Nat) : Obj' := { els := [[.l false (usL us), .m o]], w := 2, pu := false, g := true, cap := none, ver := 0, fro := false }
def mpO (l : List (Int × PV)) : Obj' := { els := [], w := 0, pu := false, g := true, cap := none, ver := 0, fro := false, mp := some (.u64, l) }
theorem W26 (N d : Nat) (e : Evn) : sem tab N (d + 1) 26 [.agg (evC e)] [] = some (.b (brkE e), []) := by
  rw [sem_succ tab N d 26 m26 rfl]
  obtain ⟨k, raw, dr, bo, ke⟩ := e
  simp only [evC, brkE]
  generalize byL raw = b
  by_cases h2 : k = 2
  · subst h2; simp -implicitDefEqProofs (maxSteps := 1000000) (disch := first | omega | rfl) [m26, KS, getS, getO, gS, zipN, dropW, wds, refs, boxO, -getElem?_pos]
  · have n2 : (k == 2) = false := by simpa using h2
    by_cases h0 : k = 0
    · subst h0; simp -implicitDefEqProofs (maxSteps := 1000000) (disch := first | omega | rfl) [m26, KS, getS, getO, gS, zipN, dropW, wds, refs, boxO, -getElem?_pos]
    · have n0 : (k == 0) = false := by simpa using h0
      simp -implicitDefEqProofs (maxSteps := 1000000) (disch := first | omega | rfl) [m26, n2, n0, KS, getS, getO, gS, zipN, dropW, wds, refs, boxO, -getElem?_pos]
theorem W45 (N d : Nat) (us : List Us) (m : Mp) (f : Fra) (v : PV) : sem tab N (d + 1) 45 [.p 0 0 0 0 none, .agg (frC f), v] [bkO us 1, mpO (mpP m)] = some (.i .i64 ((mgt f.sess m).getD 0), [bkO us 1, mpO (mpP m)]) := by
  rw [sem_succ tab N d 45 m45 rfl]
  obtain ⟨f1, f2, f3, f4, f5, f6, f7, f8, f9⟩ := f
  simp only [frC, bkO, mpO]
  have hg := mget_P f3 m
  generalize mpP m = l at *
  generalize usL us = a at *
  generalize uL f9 = q at *
  cases hm : mgt f3 m with
  | none =>
    rw [hm] at hg
    simp only [Option.map_none] at hg
    simp -implicitDefEqProofs (maxSteps := 1000000) (disch := first | omega | rfl) [m45, mpl, mplX, mplV, mpo, hd1, wd, hg, KF, fin, resOs, refsOuts, refsX, outOs, outX, seaEls, seaL, resO, sea, one, KS, getS, getO, gS, zipN, dropW, wds, sea, seaL, refs, refsL, refsEls, refsO, boxO, row, -getElem?_pos]
  | some x =>
    rw [hm] at hg
    simp only [Option.map_some] at hg
    simp -implicitDefEqProofs (maxSteps := 1000000) (disch := first | omega | rfl) [m45, mpl, mplX, mplV, mpo, hd1, wd, hg, KF, fin, resOs, refsOuts, refsX, outOs, outX, seaEls, seaL, resO, sea, one, KS, getS, getO, gS, zipN, dropW, wds, sea, seaL, refs, refsL, refsEls, refsO, boxO, row, -getElem?_pos]
def helS (us : List Us) (m : Mp) (f : Fra) (dr : Int) : Int × Mp := if thereU us f.user = true then (f.user, mst dr f.user m) else (0, m)
theorem W44 (N d : Nat) (us : List Us) (m : Mp) (f : Fra) (dr : Int) (hl : us.length < 1000) : sem tab (N + 1001) (d + 4) 44 [.p 0 0 0 0 none, .agg (frC f), .i .u64 dr] [bkO us 1, mpO (mpP m)] = some (.i .i64 (helS us m f dr).1, [bkO us 1, mpO (mpP (helS us m f dr).2)]) := by
  rw [sem_succ tab (N + 1001) (d + 3) 44 m44 rfl]
  have h34 := U34u N d us f.user hl
  unfold helS thereU
  obtain ⟨f1, f2, f3, f4, f5, f6, f7, f8, f9⟩ := f
  simp only [frC, bkO, mpO] at h34 ⊢
  have hs := mset_P dr f2 m
  by_cases ht : 0 ≤ findU us f2
  · rw [decide_eq_true ht, if_pos rfl]
    simp only
    rw [← hs]
    clear hs
    have nt : ¬ (findU us f2 < 0) := by omega
    generalize findU us f2 = w at *
    generalize mpP m = l at *
    generalize usL us = a at *
    generalize uL f9 = q at *
    simp -implicitDefEqProofs (maxSteps := 1000000) (disch := first | omega | rfl) [m44, mpu, mpuX, mpo, valV, hd1, wd, h34, nt, KF, fin, resOs, refsOuts, refsX, outOs, outX, seaEls, seaL, resO, sea, one, KS, getS, getO, gS, zipN, dropW, wds, sea, seaL, refs, refsL, refsEls, refsO, noExt, ren, boxO, row, -getElem?_pos]
  · rw [decide_eq_false ht, if_neg (by simp)]
    clear hs
    have nt : findU us f2 < 0 := by omega
    generalize findU us f2 = w at *
    generalize mpP m = l at *
    generalize usL us = a at *
    generalize uL f9 = q at *
    simp -implicitDefEqProofs (maxSteps := 1000000) (disch := first | omega | rfl) [m44, mpu, mpuX, mpo, valV, hd1, wd, h34, nt, KF, fin, resOs, refsOuts, refsX, outOs, outX, seaEls, seaL, resO, sea, one, KS, getS, getO, gS, zipN, dropW, wds, sea, seaL, refs, refsL, refsEls, refsO, noExt, ren, boxO, row, -getElem?_pos]
theorem k_enf (n : Bool) (f : Nat) (a b : List PV) : eNf n (.fn f a b) = some (.b n) := rfl
theorem k_enf0 (n : Bool) : eNf n .nf = some (.b (!n)) := rfl
theorem k_bk (Φ : Sem') (S : OB) (n k : Nat) (us : List Us) (l l' : List (Int × PV)) (f : Fra) (z : Int) (v : Int) (h0 : getO S 0 = some (bkO us 1)) (h1 : getO S 1 = some (mpO l))
    (h : Φ k [.p 0 0 0 0 none, .agg (frC f), .i .u64 z] [bkO us 1, mpO l] = some (.i .i64 v, [bkO us 1, mpO l'])) :
    cav Φ S n false (.fn k [] []) [.p 0 0 0 0 none, .agg (frC f), .i .u64 z] = some (.i .i64 v, [(0, bkO us 1), (1, mpO l')]) := by
  have e1 : reifies S [.p 0 0 0 0 none, .agg (frC f), .i .u64 z] = some ([.p 0 0 0 0 none, .agg (frC f), .i .u64 z], []) := by
    simp [reifies, reify, reify0, reifyL, frC]
  have e2 : refsL [.p 0 0 0 0 none, .agg (frC f), .i .u64 z] = [0] := by simp [refsL, refs, frC]
  have e3 : reach S 20 [0] [] = some [0, 1] := by
    simp [reach, h0, h1, refsO, bkO, mpO, refsEls, refsL, refs]
  have e4 : renL (idx [0, 1]) [.p 0 0 0 0 none, .agg (frC f), .i .u64 z] = [.p 0 0 0 0 none, .agg (frC f), .i .u64 z] := by
    simp only [renL, ren, frC]; rfl
  have e5 : [bkO us 1, mpO l].map (renO (idx [0, 1])) = [bkO us 1, mpO l] := rfl
  have e6 : getOs S [0, 1] = some [bkO us 1, mpO l] := by simp [getOs, h0, h1]
  simp only [cav, List.nil_append, List.append_nil, ca, hand, e1, e2, e3, e4, e5, e6, h, Bool.false_eq_true, if_false, List.any_cons, List.any_nil, List.contains_nil, Bool.or_false]
  simp [back, putOs, newOs, nth, renO, renEls, renL, ren, bkO, mpO]
set_option maxHeartbeats 8000000 in
theorem W25 (N d : Nat) (us : List Us) (m : Mp) (e : Evn) (hl : us.length < 1000) (hb : e.raw.length ≤ 10000) (hr : ∀ x ∈ e.raw, 0 ≤ x ∧ x ≤ 255) :
    sem tab (N + 1001) (d + 7) 25 [.p 0 0 0 0 none, .agg (evC e)] [bkO us 1, mpO (mpP m)] = some (.i .i64 (whoS us m e).1, [bkO us 1, mpO (mpP (whoS us m e).2)]) := by
  rw [sem_succ tab (N + 1001) (d + 6) 25 m25 rfl]
  have h20 := V11 (N + 1) d e.raw hb hr
  unfold outRd okR errR at h20
  obtain ⟨k, raw, dr, bo, ke⟩ := e
  simp only [evC] at h20 ⊢
  by_cases hk : k = 0
  · subst hk
    cases hg : goodF raw
    · have e0 : kindE ⟨0, raw, dr, bo, ke⟩ = -1 := by simp [kindE, hg]
      have ew : whoS us m ⟨0, raw, dr, bo, ke⟩ = (0, m) := by simp [whoS, e0]
      rw [ew]
      rw [hg, cond_false] at h20
      have he : errF raw ≠ 0 := by unfold errF; split; · decide
                                   · split <;> decide
      have he' : (errF raw != 0) = true := by simpa using he
      simp only [frC, zeF, bkO, mpO] at h20 ⊢
      generalize errF raw = er at *
      generalize byL raw = b at *
      generalize mpP m = l at *
      generalize usL us = a at *
      generalize uL z32 = q at *
      generalize hz' : List.replicate 32 (PV.i .u8 0) = zz at *
      simp -implicitDefEqProofs (maxSteps := 1000000) (disch := first | omega | rfl) [m25, h20, he', wd, fin, resOs, refsOuts, refsX, outOs, outX, seaEls, seaL, resO, sea, one, hz', KS, getS, getO, gS, zipN, dropW, takeW, wds, sea, seaL, refs, refsL, refsO, noExt, noExts, ren, renL, boxO, row, putW, -getElem?_pos]
    · rw [hg, cond_true] at h20
      have e0 : kindE ⟨0, raw, dr, bo, ke⟩ = (seemF raw).kind := by simp [kindE, hg]
      have ef : fraE ⟨0, raw, dr, bo, ke⟩ = seemF raw := rfl
      unfold whoS
      rw [e0, ef]
      clear hg e0 ef
      generalize seemF raw = f at *
      by_cases k0 : f.kind = 0
      · have h44 := W44 N (d + 2) us m f dr hl
        have eh : (if thereU us f.user = true then (f.user, mst dr f.user m) else (0, m)) = helS us m f dr := rfl
        rw [if_pos k0, eh]
        generalize helS us m f dr = H at *
        obtain ⟨H1, H2⟩ := H
        have kc := fun A B C D E F G => k_bk (sem tab (N + 1001) (d + 6)) [(224, A), (224, B), (224, C), (224, D), (104, E), (104, F), (88, G), (0, bkO us 1), (1, mpO (mpP m))] 328 44 us (mpP m) (mpP H2) f dr H1 rfl rfl h44
        obtain ⟨f1, f2, f3, f4, f5, f6, f7, f8, f9⟩ := f
        simp only at k0
        subst k0
        simp only [frC, bkO, mpO] at h20 kc ⊢
        clear h44 eh
        generalize byL raw = b at *
        generalize mpP m = l at *
        generalize mpP H2 = l2 at *
        generalize usL us = a at *
        generalize uL f9 = q at *
        generalize hz' : List.replicate 32 (PV.i .u8 0) = zz at *
        simp -implicitDefEqProofs (maxSteps := 1000000) (disch := first | omega | rfl) [m25, h20, kc, mkm, mapO, mpu, mpuX, mpl, mplX, mplV, mpo, valV, mset, mget, hd1, wd, k_enf, fin, resOs, refsOuts, refsX, outOs, outX, seaEls, seaL, resO, sea, one, hz', KS, getS, getO, gS, zipN, dropW, takeW, wds, sea, seaL, refs, refsL, refsO, noExt, noExts, ren, renL, boxO, row, putW, -getElem?_pos]
      · rw [if_neg k0]
        by_cases k24 : f.kind = 2 ∨ f.kind = 4
        · rw [if_pos k24]
          have h45 := W45 (N + 1001) (d + 5) us m f (.i .u64 dr)
          have kc := fun A B C D E F G => k_bk (sem tab (N + 1001) (d + 6)) [(224, A), (224, B), (224, C), (224, D), (104, E), (104, F), (88, G), (0, bkO us 1), (1, mpO (mpP m))] 328 45 us (mpP m) (mpP m) f dr _ rfl rfl h45
          clear h45
          generalize (mgt f.sess m).getD 0 = H1 at *
          obtain ⟨f1, f2, f3, f4, f5, f6, f7, f8, f9⟩ := f
          simp only [frC, bkO, mpO] at h20 kc k24 k0 ⊢
          generalize byL raw = b at *
          generalize mpP m = l at *
          generalize usL us = a at *
          generalize uL f9 = q at *
          generalize hz' : List.replicate 32 (PV.i .u8 0) = zz at *
          rcases k24 with rfl | rfl <;> simp -implicitDefEqProofs (maxSteps := 1000000) (disch := first | omega | rfl) [m25, h20, kc, mkm, mapO, mpu, mpuX, mpl, mplX, mplV, mpo, valV, mset, mget, hd1, wd, k_enf, fin, resOs, refsOuts, refsX, outOs, outX, seaEls, seaL, resO, sea, one, hz', KS, getS, getO, gS, zipN, dropW, takeW, wds, sea, seaL, refs, refsL, refsO, noExt, noExts, ren, renL, boxO, row, putW, -getElem?_pos]
        · rw [if_neg k24]
          obtain ⟨f1, f2, f3, f4, f5, f6, f7, f8, f9⟩ := f
          simp only [frC, bkO, mpO] at h20 k24 k0 ⊢
          have k2 : ¬ f1 = 2 := fun h => k24 (.inl h)
          have k4 : ¬ f1 = 4 := fun h => k24 (.inr h)
          clear k24
          generalize byL raw = b at *
          generalize mpP m = l at *
          generalize usL us = a at *
          generalize uL f9 = q at *
          generalize hz' : List.replicate 32 (PV.i .u8 0) = zz at *
          simp -implicitDefEqProofs (maxSteps := 1000000) (disch := first | omega | rfl) [m25, h20, k0, k2, k4, mkm, mapO, mpu, mpuX, mpl, mplX, mplV, mpo, valV, mset, mget, hd1, wd, k_enf0, fin, resOs, refsOuts, refsX, outOs, outX, seaEls, seaL, resO, sea, one, hz', KS, getS, getO, gS, zipN, dropW, takeW, wds, sea, seaL, refs, refsL, refsO, noExt, noExts, ren, renL, boxO, row, putW, -getElem?_pos]
  · have e0 : kindE ⟨k, raw, dr, bo, ke⟩ = -1 := by simp [kindE, hk]
    have ew : whoS us m ⟨k, raw, dr, bo, ke⟩ = (0, m) := by simp [whoS, e0]
    rw [ew]
    have hk' : (k != 0) = true := by simpa using hk
    simp only [bkO, mpO]
    clear h20
    generalize byL raw = b at *
    generalize mpP m = l at *
    generalize usL us = a at *
    simp -implicitDefEqProofs (maxSteps := 1000000) (disch := first | omega | rfl) [m25, hk', wd, fin, resOs, refsOuts, refsX, outOs, outX, seaEls, seaL, resO, sea, one, KS, getS, getO, gS, zipN, dropW, wds, sea, seaL, refs, refsL, refsO, boxO, row, -getElem?_pos]
end
section
theorem k_stm (o : Nat) : stv (.m o) = true := rfl
theorem k_cem (o : Nat) : cellsOf (.m o) = [.m o] := rfl
def iL (l : List Int) : List (List PV) := l.map fun w => [.i .i64 w]
theorem iL_len (l : List Int) : (iL l).length = l.length := by simp [iL]
theorem k_bk13 (Φ : Sem') (A B C : Obj') (n : Nat) (us : List Us) (l l' : List (Int × PV)) (e : Evn) (v : Int)
    (h : Φ 25 [.p 0 0 0 0 none, .agg (evC e)] [bkO us 1, mpO l] = some (.i .i64 v, [bkO us 1, mpO l'])) :
    ca Φ [(128, A), (128, B), (119, C), (152, mpO l), (168, bkO us 152)] n false 25 [.p 168 0 0 0 none, .agg (evC e)] = some (.i .i64 v, [(168, bkO us 152), (152, mpO l')]) := by
  have e1 : ∀ S : OB, reifies S [.p 168 0 0 0 none, .agg (evC e)] = some ([.p 168 0 0 0 none, .agg (evC e)], []) := by
    intro S; simp [reifies, reify, reify0, reifyL, evC]
  have e2 : refsL [.p 168 0 0 0 none, .agg (evC e)] = [168] := by simp [refsL, refs, evC]
  have e3 : reach [(128, A), (128, B), (119, C), (152, mpO l), (168, bkO us 152)] 20 [168] [] = some [168, 152] := by
    simp [reach, getO, refsO, bkO, mpO, refsEls, refsL, refs]
  have e4 : renL (idx [168, 152]) [.p 168 0 0 0 none, .agg (evC e)] = [.p 0 0 0 0 none, .agg (evC e)] := by
    simp only [renL, ren, evC]; rfl
  have e5 : [bkO us 152, mpO l].map (renO (idx [168, 152])) = [bkO us 1, mpO l] := rfl
  have e6 : getOs [(128, A), (128, B), (119, C), (152, mpO l), (168, bkO us 152)] [168, 152] = some [bkO us 152, mpO l] := by simp [getOs, getO]
  simp only [ca, hand, e1, e2, e3, e4, e5, e6, h, Bool.false_eq_true, if_false, List.any_cons, List.any_nil, List.contains_nil, Bool.or_false]
  simp [back, putOs, newOs, nth, renO, renEls, renL, ren, bkO, mpO]
def slp13 (xs : List (List PV)) (n i t : Nat) : SL := [(5, .p 168 0 0 0 none), (6, .sl 119 0 0 t), (14, .l false xs), (15, .i .i64 n), (16, .i .i64 i)]
def obp13 (us : List Us) (l : List (Int × PV)) (t : List (List PV)) : OB := [(119, row t 1 true), (152, mpO l), (168, bkO us 152)]
set_option maxHeartbeats 8000000 in
theorem stepp13 (N d : Nat) (g : SL → OB → Option R) (us : List Us) (m : Mp) (xs t : List (List PV)) (n i : Nat) (e : Evn) (tg : Bool) (hx : xs[i]? = some (evG tg e)) (hi : i < n) (hn : n ≤ 1000) (ht : t.length ≤ 100000) (hl : us.length < 1000) (hb : e.raw.length ≤ 10000) (hr : ∀ x ∈ e.raw, 0 ≤ x ∧ x ≤ 255) :
    m13b0 (sem tab (N + 1001) (d + 7)) (N + 1001) [] g (slp13 xs n i t.length) (obp13 us (mpP m) t) =
      g (slp13 xs n (i + 1) (t ++ [[PV.i .i64 (whoS us m e).1]]).length) (obp13 us (mpP (aftM us m e)) (t ++ [[PV.i .i64 (whoS us m e).1]])) := by
  have h25 := W25 N d us m e hl hb hr
  have kc := fun A B C => k_bk13 (sem tab (N + 1001) (d + 7)) A B C 248 us (mpP m) (mpP (whoS us m e).2) e _ h25
  have h26 := W26 (N + 1001) (d + 6) e
  have w2 := w64n (i := i) (by omega)
  have ci : (i : Int) < n := by omega
  have t2 : List.take t.length t = t := List.take_length
  have e0 : t.length + 1 ≤ 4294967296 := by omega
  have e1 : ¬ (t.length + 1 ≤ t.length) := by omega
  clear h25
  unfold aftM
  generalize (whoS us m e).1 = w at *
  generalize hl2 : mpP (whoS us m e).2 = l2 at *
  have eb : mpP (if brkE e = true then [] else (whoS us m e).2) = if brkE e = true then [] else l2 := by
    cases brkE e <;> simp [mpP, ← hl2]
  rw [eb]
  clear eb hl2
  have e4 : List.take (t.length + 1) (t ++ [[PV.i .i64 w]]) = t ++ [[PV.i .i64 w]] := List.take_of_length_le (by simp)
  generalize brkE e = br0 at *
  obtain ⟨k, raw, dr, bo, ke⟩ := e
  simp only [evC, evG, bkO, mpO] at kc h26 hx
  simp only [slp13, obp13, bkO, mpO]
  clear hb hr
  generalize mpP m = l at *
  generalize usL us = a at *
  generalize byL raw = b at *
  cases br0
  · simp -implicitDefEqProofs (maxSteps := 1000000) (disch := first | omega | rfl) [m13b0, hx, kc, h26, w2, ci, t2, e0, e1, hd1, wd, KF, KS, getS, getO, gS, dropW, takeW, wds, stvs, refs, refsL, refsEls, refsO, isPureEls, isPures, isPure, noExt, noExts, noExtEls, cellsL, ren, keepO, keepS, keysO, refsS, refsOB, cntN, headC, setS, boxO, row, putW, two32, -getElem?_pos]
  · simp -implicitDefEqProofs (maxSteps := 1000000) (disch := first | omega | rfl) [m13b0, hx, kc, h26, w2, ci, t2, e0, e1, mpc, mpcX, mpo, hd1, wd, KF, KS, getS, getO, gS, dropW, takeW, wds, stvs, refs, refsL, refsEls, refsO, isPureEls, isPures, isPure, noExt, noExts, noExtEls, cellsL, ren, keepO, keepS, keysO, refsS, refsOB, cntN, headC, setS, boxO, row, putW, two32, -getElem?_pos]
set_option maxHeartbeats 4000000 in
theorem endp13 (N d : Nat) (g : SL → OB → Option R) (us : List Us) (l : List (Int × PV)) (xs t : List (List PV)) (n : Nat) :
    m13b0 (sem tab N d) N [] g (slp13 xs n n t.length) (obp13 us l t) = some (.sl 0 0 0 t.length, [row t 1 true]) := by
  have t2 : List.take t.length t = t := List.take_length
  simp only [slp13, obp13, bkO, mpO]
  simp -implicitDefEqProofs (maxSteps := 1000000) (disch := first | omega | rfl) [m13b0, t2, KS, getS, getO, gS, takeW, wds, stvs, refs, isPureEls, noExtEls, cellsL, cntN, boxO, row, putW, -getElem?_pos]
theorem evL_get (l : List Evn) (i : Nat) (h : i < l.length) : (evL l)[i]? = some (evC l[i]) := by simp [evL, h]
def okEv (e : Evn) : Prop := ∀ x ∈ e.raw, 0 ≤ x ∧ x ≤ 255
def fewE (e : Evn) : Prop := e.raw.length ≤ 10000 ∧ okEv e
theorem loopp13 (N d : Nat) (us : List Us) (xs : List (List PV)) (l : List Evn) (hR : EvR xs l) (hl : us.length < 1000) (hn : l.length ≤ 1000) (ho : ∀ e ∈ l, fewE e) : ∀ (k i e : Nat) (m : Mp) (t : List (List PV)), i + k = l.length → t.length = i →
    loopC (m13b0 (sem tab (N + 1001) (d + 7)) (N + 1001) []) (e + 1 + k) (slp13 xs l.length i t.length) (obp13 us (mpP m) t) =
      some (.sl 0 0 0 (t ++ iL (whoL us m (l.drop i))).length, [row (t ++ iL (whoL us m (l.drop i))) 1 true]) := by
  intro k
  induction k with
  | zero =>
    intro i e m t h ht
    have : i = l.length := by omega
    subst this
    rw [Nat.add_zero, k_loop, endp13, List.drop_length]
    simp [whoL, iL]
  | succ k ih =>
    intro i e m t h ht
    have hi : i < l.length := by omega
    have hm := ho l[i] (List.getElem_mem hi)
    obtain ⟨tg, hx⟩ := hR.2 i hi
    rw [show e + 1 + (k + 1) = (e + 1 + k) + 1 by omega, k_loop, stepp13 N d _ us m xs t l.length i l[i] tg hx hi hn (by omega) hl hm.1 hm.2]
    rw [ih (i + 1) e _ _ (by omega) (by simp; omega)]
    rw [List.drop_eq_getElem_cons hi]
    simp only [whoL, iL, List.map_cons, List.append_assoc, List.singleton_append]
set_option maxHeartbeats 4000000 in
theorem W13 (N d : Nat) (us : List Us) (P : List (List PV)) (x y : Int) (xs : List (List PV)) (l : List Evn) (hR : EvR xs l) (hl : us.length < 1000) (hn : l.length ≤ 1000) (ho : ∀ e ∈ l, fewE e) :
    sem tab (N + 1001) (d + 8) 13 [.agg [.l false (usL us), .l false P, .i .i64 x, .i .i64 y], .l false xs] [] = some (.sl 0 0 0 l.length, [row (iL (whoL us [] l)) 1 true]) := by
  rw [sem_succ tab (N + 1001) (d + 7) 13 m13 rfl]
  have hL := loopp13 N d us xs l hR hl hn ho l.length 0 (N + 1000 - l.length) [] [] (by omega) rfl
  rw [show N + 1000 - l.length + 1 + l.length = N + 1001 by omega] at hL
  have e1 : ([] ++ iL (whoL us [] (l.drop 0)) : List (List PV)) = iL (whoL us [] l) := by simp
  have e2 : (iL (whoL us [] l)).length = l.length := by rw [iL_len, whoL_len]
  have e3 := hR.1
  rw [e1, e2] at hL
  simp only [slp13, obp13, bkO, mpO, row, show ((0 : Nat) : Int) = 0 from rfl] at hL
  have ep : mpP [] = [] := rfl
  rw [ep] at hL
  generalize iL (whoL us [] l) = o at *
  generalize usL us = a at *
  simp only [List.length_nil] at hL
  generalize N + 1001 = M at *
  simp -implicitDefEqProofs (maxSteps := 1000000) (disch := first | omega | rfl) [m13, mkm, mapO, hL, e3, hd1, wd, k_stm, k_cem, KS, getS, getO, gS, zipN, dropW, takeW, wds, refs, refsL, refsEls, refsO, keepO, keepS, keysO, refsS, refsOB, cntN, headC, setS, boxO, row, putW, putB, putB1, -getElem?_pos]
end
section
def fewV (l : List Evn) : Bool := (l.take 41).all (fun e => decide (e.raw.length ≤ 200)) && decide (l.length ≤ 40)
def slp11 (xs : List (List PV)) (i : Nat) : SL := [(0, .l false xs), (1, .i .i64 40), (5, .i .i64 i)]
set_option maxHeartbeats 4000000 in
theorem step11v (N d : Nat) (g : SL → OB → Option R) (xs : List (List PV)) (i : Nat) (e : Evn) (hx : xs[i]? = some (evC e)) (hi : i < xs.length) (h4 : i ≤ 40) :
    m11b0 (sem tab N d) N [] g (slp11 xs i) [] = cond (decide (e.raw.length ≤ 200)) (g (slp11 xs (i + 1)) []) (some (.b false, [])) := by
  have hl := byL_len e.raw
  have w2 := w64n (i := i) (by omega)
  have ci : (i : Int) < xs.length := by omega
  have c4 : (i : Int) ≤ 40 := by omega
  obtain ⟨k, raw, dr, bo, ke⟩ := e
  simp only [evC] at hx hl ⊢
  rw [← hl]
  clear hl
  generalize byL raw = b at *
  by_cases h : b.length ≤ 200
  · have hh : ¬ ((b.length : Int) > 200) := by omega
    rw [decide_eq_true h]
    simp -implicitDefEqProofs (maxSteps := 1000000) (disch := first | omega | rfl) [m11b0, slp11, hx, w2, ci, c4, hh, KS, getS, gS, dropW, wds, refs, keepO, keepS, keysO, refsS, refsOB, headC, -getElem?_pos]
  · have hh : (b.length : Int) > 200 := by omega
    rw [decide_eq_false h]
    simp -implicitDefEqProofs (maxSteps := 1000000) (disch := first | omega | rfl) [m11b0, slp11, hx, w2, ci, c4, hh, KS, getS, gS, dropW, wds, refs, keepO, keepS, keysO, refsS, refsOB, headC, -getElem?_pos]
theorem end11v (N d : Nat) (g : SL → OB → Option R) (xs : List (List PV)) (i : Nat) (h : i = xs.length ∧ i ≤ 40 ∨ i = 41 ∧ 41 ≤ xs.length) : m11b0 (sem tab N d) N [] g (slp11 xs i) [] = some (.b (decide (xs.length ≤ 40)), []) := by
  rcases h with ⟨rfl, h⟩ | ⟨rfl, h⟩
  · have h1 : ((xs.length : Int) ≤ 40) := by omega
    rw [decide_eq_true h]
    simp -implicitDefEqProofs (maxSteps := 1000000) (disch := first | omega | rfl) [m11b0, slp11, h1, KS, getS, gS, refs, keepO, keepS, keysO, refsS, refsOB, headC, w64, -getElem?_pos]
  · have h1 : ¬ ((xs.length : Int) ≤ 40) := by omega
    rw [decide_eq_false (by omega)]
    by_cases h2 : (41 : Int) < xs.length
    · simp -implicitDefEqProofs (maxSteps := 1000000) (disch := first | omega | rfl) [m11b0, slp11, h1, h2, KS, getS, gS, refs, keepO, keepS, keysO, refsS, refsOB, headC, w64, -getElem?_pos]
    · simp -implicitDefEqProofs (maxSteps := 1000000) (disch := first | omega | rfl) [m11b0, slp11, h1, h2, KS, getS, gS, refs, keepO, keepS, keysO, refsS, refsOB, headC, w64, -getElem?_pos]
theorem loop11v (N d : Nat) (l : List Evn) : ∀ (k i e : Nat), i + k = min l.length 41 →
    loopC (m11b0 (sem tab N d) N []) (e + 1 + k) (slp11 (evL l) i) [] = some (.b (((l.take 41).drop i).all (fun e => decide (e.raw.length ≤ 200)) && decide (l.length ≤ 40)), []) := by
  intro k
  induction k with
  | zero =>
    intro i e h
    rw [Nat.add_zero, k_loop, end11v N d _ _ i (by rw [evL_len]; omega), evL_len]
    rw [List.drop_of_length_le (by rw [List.length_take]; omega)]
    rfl
  | succ k ih =>
    intro i e h
    have hi : i < l.length := by omega
    rw [show e + 1 + (k + 1) = (e + 1 + k) + 1 by omega, k_loop, step11v N d _ (evL l) i l[i] (evL_get l i hi) (by rw [evL_len]; exact hi) (by omega), ih (i + 1) e (by omega)]
    rw [List.drop_eq_getElem_cons (l := l.take 41) (i := i) (by rw [List.length_take]; omega)]
    simp only [List.all_cons, List.getElem_take]
    cases decide (l[i].raw.length ≤ 200) <;> rfl
theorem W11 (N d : Nat) (l : List Evn) : sem tab (N + 1000) (d + 1) 11 [.l false (evL l), .i .i64 40] [] = some (.b (fewV l), []) := by
  rw [sem_succ tab (N + 1000) d 11 m11 rfl]
  have hL := loop11v (N + 1000) d l (min l.length 41) 0 (N + 999 - min l.length 41) (by omega)
  rw [show N + 999 - min l.length 41 + 1 + min l.length 41 = N + 1000 by omega] at hL
  have ef : (((l.take 41).drop 0).all (fun e => decide (e.raw.length ≤ 200)) && decide (l.length ≤ 40)) = fewV l := rfl
  rw [ef] at hL
  simp only [slp11, show ((0 : Nat) : Int) = 0 from rfl] at hL
  generalize evL l = xs at *
  generalize N + 1000 = M at *
  simp -implicitDefEqProofs (maxSteps := 1000000) (disch := first | omega | rfl) [m11, hL, KS, getS, gS, zipN, refs, keepO, keepS, keysO, refsS, refsOB, cntN, headC, -getElem?_pos]
theorem fewV_spec {l : List Evn} (h : fewV l = true) : l.length ≤ 40 ∧ ∀ e ∈ l, e.raw.length ≤ 200 := by
  simp only [fewV, Bool.and_eq_true, decide_eq_true_eq] at h
  obtain ⟨h1, h2⟩ := h
  rw [List.take_of_length_le (by omega), List.all_eq_true] at h1
  exact ⟨h2, fun e he => by simpa using h1 e he⟩
theorem iL_get (l : List Int) (i : Nat) (h : i < l.length) : (iL l)[i]? = some [.i .i64 l[i]] := by simp [iL, h]
def slp12 (xs ys : List (List PV)) (i : Nat) : SL := [(0, .l false xs), (1, .l false ys), (5, .i .i64 i)]
set_option maxHeartbeats 4000000 in
theorem stepp12 (N d : Nat) (g : SL → OB → Option R) (xs ys : List (List PV)) (i : Nat) (a b : Int) (hx : xs[i]? = some [.i .i64 a]) (hy : ys[i]? = some [.i .i64 b]) (hi : i < xs.length) (hn : xs.length ≤ 1000) :
    m12b0 (sem tab N d) N [] g (slp12 xs ys i) [] = cond (a == b) (g (slp12 xs ys (i + 1)) []) (some (.b false, [])) := by
  have w2 := w64n (i := i) (by omega)
  have ci : (i : Int) < xs.length := by omega
  by_cases h : a = b
  · subst h
    have hh : (a != a) = false := by simp
    rw [show (a == a) = true by simp, cond_true]
    simp -implicitDefEqProofs (maxSteps := 1000000) (disch := first | omega | rfl) [m12b0, slp12, hx, hy, w2, ci, KS, getS, gS, wds, refs, keepO, keepS, keysO, refsS, refsOB, headC, -getElem?_pos]
  · have hh : (a != b) = true := by simpa using h
    rw [show (a == b) = false by simpa using h, cond_false]
    simp -implicitDefEqProofs (maxSteps := 1000000) (disch := first | omega | rfl) [m12b0, slp12, hx, hy, w2, ci, hh, KS, getS, gS, wds, refs, keepO, keepS, keysO, refsS, refsOB, headC, -getElem?_pos]
theorem endp12 (N d : Nat) (g : SL → OB → Option R) (xs ys : List (List PV)) : m12b0 (sem tab N d) N [] g (slp12 xs ys xs.length) [] = some (.b true, []) := by
  simp -implicitDefEqProofs (maxSteps := 1000000) (disch := first | omega | rfl) [m12b0, slp12, KS, getS, gS, refs, keepO, keepS, keysO, refsS, refsOB, headC, -getElem?_pos]
theorem loopp12 (N d : Nat) (a b : List Int) (hab : a.length = b.length) (hn : a.length ≤ 1000) : ∀ (k i e : Nat), i + k = a.length →
    loopC (m12b0 (sem tab N d) N []) (e + 1 + k) (slp12 (iL a) (iL b) i) [] = some (.b (decide (a.drop i = b.drop i)), []) := by
  intro k
  induction k with
  | zero =>
    intro i e h
    have : i = a.length := by omega
    subst this
    rw [Nat.add_zero, k_loop, show a.length = (iL a).length by rw [iL_len], endp12, iL_len, List.drop_length, hab, List.drop_length]
    simp
  | succ k ih =>
    intro i e h
    have hi : i < a.length := by omega
    have hj : i < b.length := by omega
    rw [show e + 1 + (k + 1) = (e + 1 + k) + 1 by omega, k_loop, stepp12 N d _ (iL a) (iL b) i _ _ (iL_get a i hi) (iL_get b i hj) (by rw [iL_len]; exact hi) (by rw [iL_len]; exact hn), ih (i + 1) e (by omega)]
    have da : a.drop i = a[i] :: a.drop (i + 1) := List.drop_eq_getElem_cons hi
    have db : b.drop i = b[i] :: b.drop (i + 1) := List.drop_eq_getElem_cons hj
    rw [da, db]
    generalize a.drop (i + 1) = X
    generalize b.drop (i + 1) = Y
    generalize a[i] = p
    generalize b[i] = q
    by_cases h : p = q
    · rw [show (p == q) = true by simpa using h, cond_true]; simp [h]
    · rw [show (p == q) = false by simpa using h, cond_false]; simp [h]
theorem W12 (N d : Nat) (a b : List Int) (hn : a.length ≤ 999) : sem tab (N + 1000) (d + 1) 12 [.l false (iL a), .l false (iL b)] [] = some (.b (decide (a = b)), []) := by
  rw [sem_succ tab (N + 1000) d 12 m12 rfl]
  have ea := iL_len a
  have eb := iL_len b
  by_cases hl : a.length = b.length
  · have hL := loopp12 (N + 1000) d a b hl (by omega) a.length 0 (N + 999 - a.length) (by omega)
    rw [show N + 999 - a.length + 1 + a.length = N + 1000 by omega] at hL
    simp only [List.drop_zero, slp12, show ((0 : Nat) : Int) = 0 from rfl] at hL
    have hh : ((iL a).length : Int) = (iL b).length := by rw [ea, eb, hl]
    have hq : (((iL a).length : Int) != (iL b).length) = false := by simp [hh]
    generalize decide (a = b) = r at *
    generalize iL a = x at *
    generalize iL b = y at *
    generalize N + 1000 = M at *
    simp -implicitDefEqProofs (maxSteps := 1000000) (disch := first | omega | rfl) [m12, hL, hq, KS, getS, gS, zipN, refs, keepO, keepS, keysO, refsS, refsOB, cntN, headC, -getElem?_pos]
  · have hq : (((iL a).length : Int) != (iL b).length) = true := by rw [ea, eb]; simp; omega
    rw [decide_eq_false (fun h => hl (by rw [h]))]
    generalize iL a = x at *
    generalize iL b = y at *
    generalize N + 1000 = M at *
    simp -implicitDefEqProofs (maxSteps := 1000000) (disch := first | omega | rfl) [m12, hq, KS, getS, gS, zipN, refs, keepO, keepS, keysO, refsS, refsOB, cntN, headC, -getElem?_pos]
end
section
def u6L (l : List Int) : List (List PV) := l.map fun w => [.i .u64 w]
theorem u6L_len (l : List Int) : (u6L l).length = l.length := by simp [u6L]
theorem u6L_get (l : List Int) (i : Nat) (h : i < l.length) : (u6L l)[i]? = some [.i .u64 l[i]] := by simp [u6L, h]
def slp48 (xs : List (List PV)) (v : Int) (n i : Nat) : SL := [(0, .l false xs), (1, .i .u64 v), (7, .i .i64 n), (8, .i .i64 i)]
set_option maxHeartbeats 4000000 in
theorem stepp48 (N d : Nat) (g : SL → OB → Option R) (xs : List (List PV)) (n i : Nat) (v a : Int) (hx : xs[i]? = some [.i .u64 a]) (hi : i < n) (hn : n ≤ 1000) :
    m48b0 (sem tab N d) N [] g (slp48 xs v n i) [] = cond (v == a) (some (.i .i64 i, [])) (g (slp48 xs v n (i + 1)) []) := by
  have w2 := w64n (i := i) (by omega)
  have ci : (i : Int) < n := by omega
  generalize hq : (v == a) = q
  cases q <;> simp -implicitDefEqProofs (maxSteps := 1000000) (disch := first | omega | rfl) [m48b0, slp48, hx, w2, ci, hq, KS, getS, gS, wds, refs, keepO, keepS, keysO, refsS, refsOB, headC, -getElem?_pos]
theorem endp48 (N d : Nat) (g : SL → OB → Option R) (xs : List (List PV)) (n : Nat) (v : Int) : m48b0 (sem tab N d) N [] g (slp48 xs v n n) [] = some (.i .i64 (-1), []) := by
  simp -implicitDefEqProofs (maxSteps := 1000000) (disch := first | omega | rfl) [m48b0, slp48, KS, getS, gS, refs, keepO, keepS, keysO, refsS, refsOB, headC, -getElem?_pos]
theorem loopp48 (N d : Nat) (l : List Int) (v : Int) (hn : l.length ≤ 1000) : ∀ (k i e : Nat), i + k = l.length →
    ∃ r : Int, loopC (m48b0 (sem tab N d) N []) (e + 1 + k) (slp48 (u6L l) v l.length i) [] = some (.i .i64 r, []) ∧ decide (0 ≤ r) = (l.drop i).contains v := by
  intro k
  induction k with
  | zero =>
    intro i e h
    have : i = l.length := by omega
    subst this
    exact ⟨-1, by rw [Nat.add_zero, k_loop, endp48], by simp⟩
  | succ k ih =>
    intro i e h
    have hi : i < l.length := by omega
    have da : l.drop i = l[i] :: l.drop (i + 1) := List.drop_eq_getElem_cons hi
    rw [show e + 1 + (k + 1) = (e + 1 + k) + 1 by omega, k_loop, stepp48 N d _ (u6L l) l.length i v _ (u6L_get l i hi) hi hn, da, List.contains_cons]
    cases hq : v == l[i]
    · obtain ⟨r, h1, h2⟩ := ih (i + 1) e (by omega)
      exact ⟨r, by rw [cond_false, h1], by rw [h2, Bool.false_or]⟩
    · exact ⟨i, by rw [cond_true], by simp⟩
theorem W32 (N d : Nat) (l : List Int) (v : Int) (hn : l.length ≤ 999) : sem tab (N + 1000) (d + 2) 32 [.l false (u6L l), .i .u64 v] [] = some (.b (l.contains v), []) := by
  rw [sem_succ tab (N + 1000) (d + 1) 32 m32 rfl]
  obtain ⟨r, hL, hr⟩ := loopp48 (N + 1000) d l v (by omega) l.length 0 (N + 999 - l.length) (by omega)
  rw [show N + 999 - l.length + 1 + l.length = N + 1000 by omega] at hL
  have h48 : sem tab (N + 1000) (d + 1) 48 [.l false (u6L l), .i .u64 v] [] = some (.i .i64 r, []) := by
    rw [sem_succ tab (N + 1000) d 48 m48 rfl]
    have e3 := u6L_len l
    simp only [slp48, show ((0 : Nat) : Int) = 0 from rfl] at hL
    generalize u6L l = xs at *
    generalize N + 1000 = M at *
    simp -implicitDefEqProofs (maxSteps := 1000000) (disch := first | omega | rfl) [m48, hL, e3, KS, getS, gS, zipN, refs, keepO, keepS, keysO, refsS, refsOB, headC, -getElem?_pos]
  rw [List.drop_zero] at hr
  rw [← hr]
  clear hL hr
  generalize u6L l = xs at *
  by_cases h : 0 ≤ r
  · have h' : r ≥ 0 := h
    simp -implicitDefEqProofs (maxSteps := 1000000) (disch := first | omega | rfl) [m32, h48, h, KS, getS, gS, zipN, refs, refsL, noExt, ren, -getElem?_pos]
  · have h' : ¬ r ≥ 0 := h
    simp -implicitDefEqProofs (maxSteps := 1000000) (disch := first | omega | rfl) [m32, h48, h, KS, getS, gS, zipN, refs, refsL, noExt, ren, -getElem?_pos]
def slp19 (xs : List (List PV)) (n i t : Nat) : SL := [(3, .sl 95 0 0 t), (8, .l false xs), (9, .i .i64 n), (10, .i .i64 i)]
set_option maxHeartbeats 16000000 in
theorem stepp19 (N d : Nat) (g : SL → OB → Option R) (xs : List (List PV)) (had : List Int) (n i : Nat) (e : Evn) (hx : xs[i]? = some (evC e)) (hi : i < n) (hn : n ≤ 1000) (ht : had.length ≤ 900) (he : fewE e) :
    m19b0 (sem tab (N + 1000) (d + 6)) (N + 1000) [] g (slp19 xs n i had.length) [(95, row (u6L had) 1 true)] =
      cond (helE e) (cond (had.contains e.draw) (some (.b false, [])) (g (slp19 xs n (i + 1) (had ++ [e.draw]).length) [(95, row (u6L (had ++ [e.draw])) 1 true)])) (g (slp19 xs n (i + 1) had.length) [(95, row (u6L had) 1 true)]) := by
  have h20 := V11 N d e.raw he.1 he.2
  have h32 := W32 N (d + 4) had e.draw (by omega)
  have w2 := w64n (i := i) (by omega)
  have ci : (i : Int) < n := by omega
  have hl := u6L_len had
  have t2 : List.take had.length (u6L had) = u6L had := by rw [← hl]; exact List.take_length
  have ea : u6L (had ++ [e.draw]) = u6L had ++ [[.i .u64 e.draw]] := by simp [u6L]
  have e0 : had.length + 1 ≤ 4294967296 := by omega
  have e1 : ¬ (had.length + 1 ≤ had.length) := by omega
  have e4 : List.take (had.length + 1) (u6L had ++ [[PV.i .u64 e.draw]]) = u6L had ++ [[PV.i .u64 e.draw]] := List.take_of_length_le (by simp [hl])
  unfold outRd okR errR at h20
  rw [ea, List.length_append, List.length_singleton]
  clear ea he
  generalize had.length = tn at *
  generalize had.contains e.draw = hc at *
  generalize u6L had = t at *
  obtain ⟨k, raw, dr, bo, ke⟩ := e
  simp only [evC] at h20 h32 hx e4 ⊢
  simp only [slp19]
  generalize hz' : List.replicate 32 (PV.i .u8 0) = zz at *
  by_cases hk : k = 0
  · subst hk
    cases hg : goodF raw
    · have e5 : helE ⟨0, raw, dr, bo, ke⟩ = false := by simp [helE, kindE, hg]
      rw [e5, cond_false]
      rw [hg, cond_false] at h20
      have he' : (errF raw != 0) = true := by
        have : errF raw ≠ 0 := by unfold errF; split; · decide
                                  · split <;> decide
        simpa using this
      simp only [frC, zeF] at h20
      generalize errF raw = er at *
      generalize byL raw = b at *
      generalize uL z32 = q at *
      simp -implicitDefEqProofs (maxSteps := 1000000) (disch := first | omega | rfl) [m19b0, hx, h20, he', w2, ci, hz', hl, t2, KS, getS, getO, gS, dropW, takeW, wds, stvs, refs, refsL, isPureEls, noExt, noExts, noExtEls, cellsL, ren, renL, keepO, keepS, keysO, refsS, refsOB, cntN, headC, setS, boxO, row, putW, -getElem?_pos]
    · rw [hg, cond_true] at h20
      have e5 : helE ⟨0, raw, dr, bo, ke⟩ = ((seemF raw).kind == 0) := by simp [helE, kindE, hg]
      rw [e5]
      clear e5 hg
      generalize seemF raw = f at *
      obtain ⟨f1, f2, f3, f4, f5, f6, f7, f8, f9⟩ := f
      simp only [frC] at h20 ⊢
      generalize byL raw = b at *
      generalize uL f9 = q at *
      by_cases h0 : f1 = 0
      · subst h0
        rw [show ((0 : Int) == 0) = true from rfl, cond_true]
        cases hc
        · simp -implicitDefEqProofs (maxSteps := 1000000) (disch := first | omega | rfl) [m19b0, hx, h20, h32, w2, ci, hz', hl, t2, e0, e1, KS, getS, getO, gS, dropW, takeW, wds, stvs, refs, refsL, isPureEls, isPures, isPure, noExt, noExts, noExtEls, cellsL, ren, renL, keepO, keepS, keysO, refsS, refsOB, cntN, headC, setS, boxO, row, putW, two32, -getElem?_pos]
        · simp -implicitDefEqProofs (maxSteps := 1000000) (disch := first | omega | rfl) [m19b0, hx, h20, h32, w2, ci, hz', hl, t2, e0, e1, KS, getS, getO, gS, dropW, takeW, wds, stvs, refs, refsL, isPureEls, isPures, isPure, noExt, noExts, noExtEls, cellsL, ren, renL, keepO, keepS, keysO, refsS, refsOB, cntN, headC, setS, boxO, row, putW, two32, -getElem?_pos]
      · have h0' : (f1 != 0) = true := by simpa using h0
        rw [show (f1 == 0) = false by simpa using h0, cond_false]
        simp -implicitDefEqProofs (maxSteps := 1000000) (disch := first | omega | rfl) [m19b0, hx, h20, h0', w2, ci, hz', hl, t2, KS, getS, getO, gS, dropW, takeW, wds, stvs, refs, refsL, isPureEls, noExt, noExts, noExtEls, cellsL, ren, renL, keepO, keepS, keysO, refsS, refsOB, cntN, headC, setS, boxO, row, putW, -getElem?_pos]
  · have e5 : helE ⟨k, raw, dr, bo, ke⟩ = false := by simp [helE, kindE, hk]
    rw [e5, cond_false]
    have hk' : (k != 0) = true := by simpa using hk
    clear h32
    generalize goodF raw = gd at *
    generalize seemF raw = f at *
    simp only [frC, zeF] at h20
    generalize errF raw = er at *
    generalize byL raw = b at *
    generalize uL z32 = q at *
    obtain ⟨f1, f2, f3, f4, f5, f6, f7, f8, f9⟩ := f
    simp only at h20
    generalize uL f9 = q2 at *
    cases gd
    · rw [cond_false] at h20
      simp -implicitDefEqProofs (maxSteps := 1000000) (disch := first | omega | rfl) [m19b0, hx, h20, hk', w2, ci, hz', hl, t2, KS, getS, getO, gS, dropW, takeW, wds, stvs, refs, refsL, isPureEls, noExt, noExts, noExtEls, cellsL, ren, renL, keepO, keepS, keysO, refsS, refsOB, cntN, headC, setS, boxO, row, putW, -getElem?_pos]
    · rw [cond_true] at h20
      simp -implicitDefEqProofs (maxSteps := 1000000) (disch := first | omega | rfl) [m19b0, hx, h20, hk', w2, ci, hz', hl, t2, KS, getS, getO, gS, dropW, takeW, wds, stvs, refs, refsL, isPureEls, noExt, noExts, noExtEls, cellsL, ren, renL, keepO, keepS, keysO, refsS, refsOB, cntN, headC, setS, boxO, row, putW, -getElem?_pos]
theorem endp19 (N d : Nat) (g : SL → OB → Option R) (xs t : List (List PV)) (n tn : Nat) : m19b0 (sem tab N d) N [] g (slp19 xs n n tn) [(95, row t 1 true)] = some (.b true, []) := by
  simp -implicitDefEqProofs (maxSteps := 1000000) (disch := first | omega | rfl) [m19b0, slp19, KS, getS, getO, gS, takeW, wds, stvs, refs, isPureEls, noExtEls, cellsL, boxO, row, putW, -getElem?_pos]
theorem loopp19 (N d : Nat) (l : List Evn) (hn : l.length ≤ 400) (ho : ∀ e ∈ l, fewE e) : ∀ (k i e : Nat) (had : List Int), i + k = l.length → had.length ≤ i →
    loopC (m19b0 (sem tab (N + 1000) (d + 6)) (N + 1000) []) (e + 1 + k) (slp19 (evL l) l.length i had.length) [(95, row (u6L had) 1 true)] = some (.b (clrL had (l.drop i)), []) := by
  intro k
  induction k with
  | zero =>
    intro i e had h ht
    have : i = l.length := by omega
    subst this
    rw [Nat.add_zero, k_loop, endp19, List.drop_length]; rfl
  | succ k ih =>
    intro i e had h ht
    have hi : i < l.length := by omega
    have da : l.drop i = l[i] :: l.drop (i + 1) := List.drop_eq_getElem_cons hi
    rw [show e + 1 + (k + 1) = (e + 1 + k) + 1 by omega, k_loop, stepp19 N d _ (evL l) had l.length i l[i] (evL_get l i hi) hi (by omega) (by omega) (ho _ (List.getElem_mem hi)), da]
    rw [ih (i + 1) e had (by omega) (by omega), ih (i + 1) e (had ++ [l[i].draw]) (by omega) (by simp; omega)]
    simp only [clrL]
    cases helE l[i]
    · rfl
    · cases had.contains l[i].draw <;> rfl
theorem W19 (N d : Nat) (l : List Evn) (hn : l.length ≤ 400) (ho : ∀ e ∈ l, fewE e) : sem tab (N + 1000) (d + 7) 19 [.l false (evL l)] [] = some (.b (clrL [] l), []) := by
  rw [sem_succ tab (N + 1000) (d + 6) 19 m19 rfl]
  have hL := loopp19 N d l hn ho l.length 0 (N + 999 - l.length) [] (by omega) (by simp)
  rw [show N + 999 - l.length + 1 + l.length = N + 1000 by omega] at hL
  have e3 := evL_len l
  have eu : u6L [] = [] := rfl
  simp only [slp19, row, eu, List.drop_zero, List.length_nil, show ((0 : Nat) : Int) = 0 from rfl] at hL
  generalize evL l = xs at *
  generalize N + 1000 = M at *
  simp -implicitDefEqProofs (maxSteps := 1000000) (disch := first | omega | rfl) [m19, hL, e3, KS, getS, getO, gS, zipN, refs, keepO, keepS, keysO, refsS, refsOB, cntN, headC, setS, row, -getElem?_pos]
end
section
theorem W29 (N d : Nat) (e : Evn) : sem tab N (d + 1) 29 [.agg (evC e)] [] = some (.b (brkE e), []) := by
  rw [sem_succ tab N d 29 m29 rfl]
  obtain ⟨k, raw, dr, bo, ke⟩ := e
  simp only [evC, brkE]
  generalize byL raw = b
  by_cases h2 : k = 2
  · subst h2; simp -implicitDefEqProofs (maxSteps := 1000000) (disch := first | omega | rfl) [m29, KS, getS, getO, gS, zipN, dropW, wds, refs, boxO, -getElem?_pos]
  · have n2 : (k == 2) = false := by simpa using h2
    by_cases h0 : k = 0
    · subst h0; simp -implicitDefEqProofs (maxSteps := 1000000) (disch := first | omega | rfl) [m29, KS, getS, getO, gS, zipN, dropW, wds, refs, boxO, -getElem?_pos]
    · have n0 : (k == 0) = false := by simpa using h0
      simp -implicitDefEqProofs (maxSteps := 1000000) (disch := first | omega | rfl) [m29, n2, n0, KS, getS, getO, gS, zipN, dropW, wds, refs, boxO, -getElem?_pos]
def fraZ (e : Evn) : Fra := if e.k = 0 ∧ goodF e.raw = true then seemF e.raw else zeF
set_option maxHeartbeats 8000000 in
theorem W31 (N d : Nat) (e : Evn) (he : fewE e) : sem tab (N + 1000) (d + 7) 31 [.agg (evC e)] [] = some (.tup [.agg (frC (fraZ e)), .i .i64 (kindE e)], []) := by
  rw [sem_succ tab (N + 1000) (d + 6) 31 m31 rfl]
  have h47 := R15 N d e.raw he.1 he.2
  have hz : uL z32 = List.replicate 32 (PV.i .u8 0) := by simp [uL, z32]
  unfold outRd okR errR at h47
  obtain ⟨k, raw, dr, bo, ke⟩ := e
  simp only [evC] at h47 ⊢
  clear he
  by_cases hk : k = 0
  · subst hk
    cases hg : goodF raw
    · have e5 : kindE ⟨0, raw, dr, bo, ke⟩ = -1 := by simp [kindE, hg]
      have e6 : fraZ ⟨0, raw, dr, bo, ke⟩ = zeF := by simp [fraZ, hg]
      rw [e5, e6]
      rw [hg, cond_false] at h47
      have he' : (errF raw != 0) = true := by
        have : errF raw ≠ 0 := by unfold errF; split; · decide
                                  · split <;> decide
        simpa using this
      simp only [frC, zeF, hz] at h47 ⊢
      generalize errF raw = er at *
      generalize byL raw = b at *
      generalize hz' : List.replicate 32 (PV.i .u8 0) = zz at *
      simp -implicitDefEqProofs (maxSteps := 1000000) (disch := first | omega | rfl) [m31, h47, he', hz', KS, getS, getO, gS, zipN, dropW, takeW, wds, sea, seaL, refs, refsL, noExt, noExts, ren, renL, boxO, putW, -getElem?_pos]
    · have e5 : kindE ⟨0, raw, dr, bo, ke⟩ = (seemF raw).kind := by simp [kindE, hg]
      have e6 : fraZ ⟨0, raw, dr, bo, ke⟩ = seemF raw := by simp [fraZ, hg]
      rw [e5, e6]
      rw [hg, cond_true] at h47
      clear e5 e6 hg hz
      generalize seemF raw = f at *
      obtain ⟨f1, f2, f3, f4, f5, f6, f7, f8, f9⟩ := f
      simp only [frC] at h47 ⊢
      generalize byL raw = b at *
      generalize uL f9 = q at *
      generalize hz' : List.replicate 32 (PV.i .u8 0) = zz at *
      simp -implicitDefEqProofs (maxSteps := 1000000) (disch := first | omega | rfl) [m31, h47, hz', dis, KS, getS, getO, gS, zipN, dropW, takeW, wds, sea, seaL, refs, refsL, noExt, noExts, ren, renL, boxO, putW, -getElem?_pos]
  · have e5 : kindE ⟨k, raw, dr, bo, ke⟩ = -1 := by simp [kindE, hk]
    have e6 : fraZ ⟨k, raw, dr, bo, ke⟩ = zeF := by simp [fraZ, hk]
    rw [e5, e6]
    have hk' : (k != 0) = true := by simpa using hk
    generalize goodF raw = gd at *
    generalize seemF raw = f at *
    simp only [frC, zeF, hz] at h47 ⊢
    clear hz
    generalize errF raw = er at *
    generalize byL raw = b at *
    obtain ⟨f1, f2, f3, f4, f5, f6, f7, f8, f9⟩ := f
    simp only at h47
    generalize uL f9 = q2 at *
    generalize hz' : List.replicate 32 (PV.i .u8 0) = zz at *
    cases gd
    · rw [cond_false] at h47
      simp -implicitDefEqProofs (maxSteps := 1000000) (disch := first | omega | rfl) [m31, h47, hk', hz', KS, getS, getO, gS, zipN, dropW, takeW, wds, sea, seaL, refs, refsL, noExt, noExts, ren, renL, boxO, putW, -getElem?_pos]
    · rw [cond_true] at h47
      simp -implicitDefEqProofs (maxSteps := 1000000) (disch := first | omega | rfl) [m31, h47, hk', hz', KS, getS, getO, gS, zipN, dropW, takeW, wds, sea, seaL, refs, refsL, noExt, noExts, ren, renL, boxO, putW, -getElem?_pos]
theorem fraZ_of {e : Evn} (h : kindE e ≠ -1) : fraZ e = fraE e := by
  unfold fraZ
  unfold kindE at h
  by_cases hc : e.k = 0 ∧ goodF e.raw = true
  · rw [if_pos hc]; rfl
  · rw [if_neg hc] at h; exact absurd rfl h
def cfC (us : List Us) (P : List (List PV)) (x y : Int) : List PV := [.l false (usL us), .l false P, .i .i64 x, .i .i64 y]
def slp27 (xs : List (List PV)) (n : Int) : SL := [(1, .l false xs), (3, .p 88 0 0 0 none), (7, .p 120 0 0 0 none), (9, .i .i64 n)]
def bxF (f : Fra) : Obj' := { els := [frC f], w := 40, pu := false, g := true, cap := none, ver := 0, fro := false }
def bxC (us : List Us) (P : List (List PV)) (x y : Int) : Obj' := { els := [cfC us P x y], w := 4, pu := false, g := true, cap := none, ver := 0, fro := false }
def obp27 (us : List Us) (P : List (List PV)) (x y : Int) (f : Fra) : OB := [(88, bxC us P x y), (120, bxF f)]
set_option maxHeartbeats 16000000 in
theorem stepp27 (N d : Nat) (g : SL → OB → Option R) (us : List Us) (P : List (List PV)) (x y : Int) (f : Fra) (xs : List (List PV)) (i : Nat) (e : Evn) (hx : xs[i]? = some (evC e)) (hi : i < 1000) (hu : us.length ≤ 10) (he : fewE e) :
    m27b0 (sem tab (N + 1000) (d + 7)) (N + 1000) [] g (slp27 xs i) (obp27 us P x y f) =
      cond (brkE e) (some (.i .i64 0, [])) (cond (helE e && (e.draw == f.sess && thereU us (fraE e).user)) (some (.i .i64 (fraE e).user, [])) (g (slp27 xs ((i : Int) - 1)) (obp27 us P x y f))) := by
  have h29 := W29 (N + 1000) (d + 6) e
  have h31 := W31 N d e he
  have h46 := U35u N (d + 4) us (fraE e).user hu
  have w1 : IntKind.i64.wrap ((i : Int) - 1) = (i : Int) - 1 := w64 (by omega) (by omega)
  have ci : (i : Int) ≥ 0 := by omega
  have tn : Int.toNat (i : Int) = i := Int.toNat_natCast i
  simp only [slp27, obp27, bxC, bxF, cfC]
  cases hb : brkE e
  case true =>
    rw [hb] at h29
    clear h31 h46
    obtain ⟨k, raw, dr, bo, ke⟩ := e
    simp only [evC] at h29 hx
    simp only [frC]
    generalize byL raw = b at *
    generalize usL us = a at *
    generalize uL f.tag = q at *
    simp -implicitDefEqProofs (maxSteps := 1000000) (disch := first | omega | rfl) [m27b0, hx, h29, w1, ci, KS, getS, gS, takeW, wds, refs, refsL, noExt, ren, boxO, -getElem?_pos]
  case false =>
  rw [hb] at h29
  rw [cond_false]
  cases hh : helE e
  case false =>
    have hk : (kindE e == 0) = false := hh
    rw [Bool.false_and, cond_false]
    clear h46 hb
    generalize kindE e = ki at *
    generalize fraZ e = fz at *
    obtain ⟨k, raw, dr, bo, ke⟩ := e
    obtain ⟨z1, z2, z3, z4, z5, z6, z7, z8, z9⟩ := fz
    simp only [evC, frC] at h29 hx h31 ⊢
    generalize byL raw = b at *
    generalize usL us = a at *
    generalize uL f.tag = q at *
    generalize uL z9 = q2 at *
    generalize hz' : List.replicate 32 (PV.i .u8 0) = zz at *
    simp -implicitDefEqProofs (maxSteps := 1000000) (disch := first | omega | rfl) [m27b0, hx, h29, h31, hk, w1, ci, hz', KS, getS, getO, gS, dropW, takeW, wds, refs, refsL, refsEls, refsO, noExt, noExts, ren, renL, keepO, keepS, keysO, refsS, refsOB, cntN, headC, boxO, putW, -getElem?_pos]
  case true =>
  have hk : kindE e = 0 := by simpa [helE] using hh
  have hf := fraZ_of (e := e) (by omega)
  rw [hk, hf] at h31
  rw [Bool.true_and]
  clear hf hk hb hh he
  have hd2 : thereU us (fraE e).user = decide (0 ≤ findU us (fraE e).user) := rfl
  rw [hd2]
  clear hd2
  generalize fraE e = fz at *
  obtain ⟨z1, z2, z3, z4, z5, z6, z7, z8, z9⟩ := fz
  obtain ⟨k, raw, dr, bo, ke⟩ := e
  simp only [evC, frC] at h29 hx h31 h46 ⊢
  generalize findU us z2 = w at *
  generalize byL raw = b at *
  generalize usL us = a at *
  generalize uL f.tag = q at *
  generalize uL z9 = q2 at *
  generalize hz' : List.replicate 32 (PV.i .u8 0) = zz at *
  generalize hq : (dr == f.sess) = dq
  cases dq
  · rw [Bool.false_and, cond_false]
    simp -implicitDefEqProofs (maxSteps := 1000000) (disch := first | omega | rfl) [m27b0, hx, h29, h31, hq, w1, ci, hz', KS, getS, getO, gS, dropW, takeW, wds, refs, refsL, refsEls, refsO, noExt, noExts, ren, renL, keepO, keepS, keysO, refsS, refsOB, cntN, headC, boxO, putW, -getElem?_pos]
  · rw [Bool.true_and]
    by_cases hw : 0 ≤ w
    · have hw' : w ≥ 0 := hw
      rw [decide_eq_true hw, cond_true]
      simp -implicitDefEqProofs (maxSteps := 1000000) (disch := first | omega | rfl) [m27b0, hx, h29, h31, h46, hq, hw, w1, ci, hz', KS, getS, getO, gS, dropW, takeW, wds, refs, refsL, refsEls, refsO, noExt, noExts, ren, renL, keepO, keepS, keysO, refsS, refsOB, cntN, headC, boxO, putW, -getElem?_pos]
    · have hw' : ¬ w ≥ 0 := hw
      rw [decide_eq_false hw, cond_false]
      simp -implicitDefEqProofs (maxSteps := 1000000) (disch := first | omega | rfl) [m27b0, hx, h29, h31, h46, hq, hw, w1, ci, hz', KS, getS, getO, gS, dropW, takeW, wds, refs, refsL, refsEls, refsO, noExt, noExts, ren, renL, keepO, keepS, keysO, refsS, refsOB, cntN, headC, boxO, putW, -getElem?_pos]
theorem endp27 (N d : Nat) (g : SL → OB → Option R) (us : List Us) (P : List (List PV)) (x y : Int) (f : Fra) (xs : List (List PV)) :
    m27b0 (sem tab N d) N [] g (slp27 xs (-1)) (obp27 us P x y f) = some (.i .i64 0, []) := by
  simp only [slp27, obp27, bxC, bxF]
  simp -implicitDefEqProofs (maxSteps := 1000000) (disch := first | omega | rfl) [m27b0, KS, getS, gS, wds, refs, boxO, w64, -getElem?_pos]
theorem loopp27 (N d : Nat) (us : List Us) (P : List (List PV)) (x y : Int) (f : Fra) (l : List Evn) (hu : us.length ≤ 10) (ho : ∀ e ∈ l, fewE e) : ∀ (k e : Nat), k ≤ l.length → k ≤ 900 →
    loopC (m27b0 (sem tab (N + 1000) (d + 7)) (N + 1000) []) (e + 1 + k) (slp27 (evL l) ((k : Int) - 1)) (obp27 us P x y f) = some (.i .i64 (whoB us f.sess (l.take k).reverse), []) := by
  intro k
  induction k with
  | zero =>
    intro e h h'
    rw [Nat.add_zero, k_loop, show ((0 : Nat) : Int) - 1 = -1 from rfl, endp27]
    rfl
  | succ k ih =>
    intro e h h'
    have hi : k < l.length := by omega
    rw [show e + 1 + (k + 1) = (e + 1 + k) + 1 by omega, k_loop, show ((k + 1 : Nat) : Int) - 1 = (k : Int) by omega, stepp27 N d _ us P x y f (evL l) k l[k] (evL_get l k hi) (by omega) hu (ho _ (List.getElem_mem hi)), ih e (by omega) (by omega)]
    rw [List.take_add_one, List.getElem?_eq_getElem hi, Option.toList_some, List.reverse_append, List.reverse_singleton, List.singleton_append]
    simp only [whoB]
    cases brkE l[k]
    · rw [cond_false, if_neg (by simp)]
      by_cases hc : kindE l[k] = 0 ∧ l[k].draw = f.sess ∧ thereU us (fraE l[k]).user = true
      · rw [if_pos hc, show (helE l[k] && (l[k].draw == f.sess && thereU us (fraE l[k]).user)) = true by simp [helE, hc.1, hc.2.1, hc.2.2]]; rfl
      · rw [if_neg hc, show (helE l[k] && (l[k].draw == f.sess && thereU us (fraE l[k]).user)) = false by
          rw [Bool.eq_false_iff]; intro hq; simp only [helE, Bool.and_eq_true, beq_iff_eq] at hq; exact hc hq]; rfl
    · rw [cond_true, if_pos rfl]
set_option maxHeartbeats 16000000 in
theorem W27 (N d : Nat) (us : List Us) (P : List (List PV)) (x y : Int) (l : List Evn) (i : Nat) (hi : i < l.length) (hn : l.length ≤ 900) (hu : us.length ≤ 10) (ho : ∀ e ∈ l, fewE e) :
    sem tab (N + 1000) (d + 8) 27 [.agg (cfC us P x y), .l false (evL l), .i .i64 i] [] = some (.i .i64 (whoR us (l.take i) l[i]), []) := by
  rw [sem_succ tab (N + 1000) (d + 7) 27 m27 rfl]
  have hL := loopp27 N d us P x y (fraZ l[i]) l hu ho i (N + 999 - i) (by omega) (by omega)
  rw [show N + 999 - i + 1 + i = N + 1000 by omega] at hL
  have hx := evL_get l i hi
  have h31 := W31 N d l[i] (ho _ (List.getElem_mem hi))
  have h46 := U35u N (d + 4) us (fraE l[i]).user hu
  have w1 : IntKind.i64.wrap ((i : Int) - 1) = (i : Int) - 1 := w64 (by omega) (by omega)
  simp only [slp27, obp27, bxC, bxF, cfC] at hL
  simp only [cfC]
  unfold whoR
  generalize (l.take i).reverse = pre at *
  generalize l[i] = e at *
  by_cases h0 : kindE e = 0
  · have hf := fraZ_of (e := e) (by omega)
    rw [h0, hf] at h31
    have hd2 : thereU us (fraE e).user = decide (0 ≤ findU us (fraE e).user) := rfl
    rw [hd2]
    clear hd2 hL hf
    rw [h0]
    generalize fraE e = fz at *
    obtain ⟨z1, z2, z3, z4, z5, z6, z7, z8, z9⟩ := fz
    obtain ⟨k, raw, dr, bo, ke⟩ := e
    simp only [evC, frC] at hx h31 h46 ⊢
    generalize findU us z2 = w at *
    generalize byL raw = b at *
    generalize usL us = a at *
    generalize evL l = xs at *
    generalize uL z9 = q2 at *
    generalize hz' : List.replicate 32 (PV.i .u8 0) = zz at *
    by_cases hw : 0 ≤ w
    · have hw' : w ≥ 0 := hw
      rw [if_pos (by simpa using hw)]
      simp -implicitDefEqProofs (maxSteps := 1000000) (disch := first | omega | rfl) [m27, hx, h31, h46, hw, hz', KS, getS, getO, gS, zipN, dropW, takeW, wds, refs, refsL, noExt, noExts, ren, renL, boxO, putW, w64, -getElem?_pos]
    · have hw' : ¬ w ≥ 0 := hw
      rw [if_neg (by simpa using hw), if_pos (by decide)]
      simp -implicitDefEqProofs (maxSteps := 1000000) (disch := first | omega | rfl) [m27, hx, h31, h46, hw, hz', KS, getS, getO, gS, zipN, dropW, takeW, wds, refs, refsL, noExt, noExts, ren, renL, boxO, putW, w64, -getElem?_pos]
  · rw [if_neg (by intro h; exact h0 h.1)]
    have h0' : (kindE e == 0) = false := by simpa using h0
    clear h46
    by_cases h24 : kindE e ≠ 2 ∧ kindE e ≠ 4
    · rw [if_pos h24]
      have h2' : (kindE e != 2) = true := by simpa using h24.1
      have h4' : (kindE e != 4) = true := by simpa using h24.2
      clear hL
      clear h24 h0
      generalize kindE e = ki at *
      generalize fraZ e = fz at *
      obtain ⟨z1, z2, z3, z4, z5, z6, z7, z8, z9⟩ := fz
      obtain ⟨k, raw, dr, bo, ke⟩ := e
      simp only [evC, frC] at hx h31 ⊢
      generalize byL raw = b at *
      generalize usL us = a at *
      generalize evL l = xs at *
      generalize uL z9 = q2 at *
      generalize hz' : List.replicate 32 (PV.i .u8 0) = zz at *
      simp -implicitDefEqProofs (maxSteps := 1000000) (disch := first | omega | rfl) [m27, hx, h31, h0', h2', h4', hz', KS, getS, getO, gS, zipN, dropW, takeW, wds, refs, refsL, noExt, noExts, ren, renL, boxO, putW, w64, -getElem?_pos]
    · rw [if_neg h24]
      have hf := fraZ_of (e := e) (by omega)
      rw [hf] at h31 hL
      have hc : (kindE e != 2) = false ∨ ((kindE e != 2) = true ∧ (kindE e != 4) = false) := by
        by_cases h2 : kindE e = 2
        · exact .inl (by simp [h2])
        · have h4 : kindE e = 4 := by omega
          exact .inr ⟨by simpa using h2, by simp [h4]⟩
      clear h24 h0 hf
      generalize whoB us (fraE e).sess pre = W at *
      generalize kindE e = ki at *
      generalize fraE e = fz at *
      obtain ⟨z1, z2, z3, z4, z5, z6, z7, z8, z9⟩ := fz
      obtain ⟨k, raw, dr, bo, ke⟩ := e
      simp only [evC, frC] at hx h31 hL ⊢
      generalize byL raw = b at *
      generalize usL us = a at *
      generalize evL l = xs at *
      generalize uL z9 = q2 at *
      generalize hz' : List.replicate 32 (PV.i .u8 0) = zz at *
      generalize N + 1000 = M at *
      rcases hc with hc | ⟨hc, hc2⟩
      · simp -implicitDefEqProofs (maxSteps := 1000000) (disch := first | omega | rfl) [m27, hx, h31, hL, h0', hc, w1, hz', KS, getS, getO, gS, zipN, dropW, takeW, wds, refs, refsL, refsEls, refsO, noExt, noExts, ren, renL, keepO, keepS, keysO, refsS, refsOB, cntN, headC, boxO, putW, -getElem?_pos]
      · simp -implicitDefEqProofs (maxSteps := 1000000) (disch := first | omega | rfl) [m27, hx, h31, hL, h0', hc, hc2, w1, hz', KS, getS, getO, gS, zipN, dropW, takeW, wds, refs, refsL, refsEls, refsO, noExt, noExts, ren, renL, keepO, keepS, keysO, refsS, refsOB, cntN, headC, boxO, putW, -getElem?_pos]
end
section
def slp14 (xs : List (List PV)) (i t : Nat) : SL := [(1, .l false xs), (2, .p 80 0 0 0 none), (5, .sl 111 0 0 t), (6, .i .i64 i)]
def obp14 (us : List Us) (P : List (List PV)) (x y : Int) (t : List (List PV)) : OB := [(111, row t 1 true), (80, bxC us P x y)]
set_option maxHeartbeats 8000000 in
theorem stepp14 (N d : Nat) (g : SL → OB → Option R) (us : List Us) (P : List (List PV)) (x y : Int) (l : List Evn) (t : List (List PV)) (i : Nat) (hi : i < l.length) (hn : l.length ≤ 900) (hu : us.length ≤ 10) (ho : ∀ e ∈ l, fewE e) (ht : t.length ≤ 100000) :
    m14b0 (sem tab (N + 1000) (d + 8)) (N + 1000) [] g (slp14 (evL l) i t.length) (obp14 us P x y t) =
      g (slp14 (evL l) (i + 1) (t ++ [[PV.i .i64 (whoR us (l.take i) l[i])]]).length) (obp14 us P x y (t ++ [[PV.i .i64 (whoR us (l.take i) l[i])]])) := by
  have h27 := W27 N d us P x y l i hi hn hu ho
  have w2 := w64n (i := i) (by omega)
  have ci : (i : Int) < (evL l).length := by rw [evL_len]; omega
  have t2 : List.take t.length t = t := List.take_length
  have e0 : t.length + 1 ≤ 4294967296 := by omega
  have e1 : ¬ (t.length + 1 ≤ t.length) := by omega
  generalize whoR us (l.take i) l[i] = w at *
  have e4 : List.take (t.length + 1) (t ++ [[PV.i .i64 w]]) = t ++ [[PV.i .i64 w]] := List.take_of_length_le (by simp)
  simp only [slp14, obp14, bxC, cfC] at h27 ⊢
  have a1 := allW_us us
  generalize evL l = xs at *
  generalize usL us = a at *
  simp -implicitDefEqProofs (maxSteps := 1000000) (disch := first | omega | rfl) [m14b0, h27, w2, ci, t2, e0, e1, KS, getS, getO, gS, dropW, takeW, wds, stvs, refs, refsL, refsEls, refsO, isPureEls, isPures, isPure, noExt, noExts, noExtEls, cellsL, ren, keepO, keepS, keysO, refsS, refsOB, cntN, headC, setS, row, two32, -getElem?_pos]
theorem endp14 (N d : Nat) (g : SL → OB → Option R) (us : List Us) (P : List (List PV)) (x y : Int) (xs t : List (List PV)) :
    m14b0 (sem tab N d) N [] g (slp14 xs xs.length t.length) (obp14 us P x y t) = some (.sl 0 0 0 t.length, [row t 1 true]) := by
  have t2 : List.take t.length t = t := List.take_length
  simp only [slp14, obp14, bxC]
  simp -implicitDefEqProofs (maxSteps := 1000000) (disch := first | omega | rfl) [m14b0, t2, KS, getS, getO, gS, dropW, stvs, refs, isPureEls, noExtEls, cellsL, cntN, row, -getElem?_pos]
theorem loopp14 (N d : Nat) (us : List Us) (P : List (List PV)) (x y : Int) (l : List Evn) (hn : l.length ≤ 900) (hu : us.length ≤ 10) (ho : ∀ e ∈ l, fewE e) : ∀ (k i e : Nat) (t : List (List PV)), i + k = l.length → t.length = i →
    loopC (m14b0 (sem tab (N + 1000) (d + 8)) (N + 1000) []) (e + 1 + k) (slp14 (evL l) i t.length) (obp14 us P x y t) =
      some (.sl 0 0 0 (t ++ iL ((whoL us [] l).drop i)).length, [row (t ++ iL ((whoL us [] l).drop i)) 1 true]) := by
  intro k
  induction k with
  | zero =>
    intro i e t h ht
    have : i = l.length := by omega
    subst this
    have e3 := endp14 (N + 1000) (d + 8) (loopC (m14b0 (sem tab (N + 1000) (d + 8)) (N + 1000) []) e) us P x y (evL l) t
    rw [evL_len] at e3
    rw [Nat.add_zero, k_loop, e3, List.drop_of_length_le (by rw [whoL_len]; exact Nat.le_refl _)]
    simp [iL]
  | succ k ih =>
    intro i e t h ht
    have hi : i < l.length := by omega
    have hw := whoL_get us l [] i l[i] (List.getElem?_eq_getElem hi)
    rw [← whoR_S] at hw
    have hj : i < (whoL us [] l).length := by rw [whoL_len]; exact hi
    have dw : (whoL us [] l).drop i = whoR us (l.take i) l[i] :: (whoL us [] l).drop (i + 1) := by
      rw [List.drop_eq_getElem_cons hj]
      rw [List.getElem?_eq_getElem hj] at hw
      injection hw with hw
      rw [hw]
    rw [show e + 1 + (k + 1) = (e + 1 + k) + 1 by omega, k_loop, stepp14 N d _ us P x y l t i hi hn hu ho (by omega)]
    rw [ih (i + 1) e _ (by omega) (by simp; omega), dw]
    simp only [iL, List.map_cons, List.append_assoc, List.singleton_append]
set_option maxHeartbeats 4000000 in
theorem W14 (N d : Nat) (us : List Us) (P : List (List PV)) (x y : Int) (l : List Evn) (hn : l.length ≤ 900) (hu : us.length ≤ 10) (ho : ∀ e ∈ l, fewE e) :
    sem tab (N + 1000) (d + 9) 14 [.agg (cfC us P x y), .l false (evL l)] [] = some (.sl 0 0 0 l.length, [row (iL (whoL us [] l)) 1 true]) := by
  rw [sem_succ tab (N + 1000) (d + 8) 14 m14 rfl]
  have hL := loopp14 N d us P x y l hn hu ho l.length 0 (N + 999 - l.length) [] (by omega) rfl
  rw [show N + 999 - l.length + 1 + l.length = N + 1000 by omega] at hL
  have e1 : ([] ++ iL ((whoL us [] l).drop 0) : List (List PV)) = iL (whoL us [] l) := by simp
  have e2 : (iL (whoL us [] l)).length = l.length := by rw [iL_len, whoL_len]
  rw [e1, e2] at hL
  simp only [slp14, obp14, bxC, cfC, row, List.length_nil, show ((0 : Nat) : Int) = 0 from rfl] at hL
  simp only [cfC]
  generalize iL (whoL us [] l) = o at *
  generalize evL l = xs at *
  generalize usL us = a at *
  generalize N + 1000 = M at *
  simp -implicitDefEqProofs (maxSteps := 1000000) (disch := first | omega | rfl) [m14, hL, KS, getS, getO, gS, zipN, wds, refs, refsL, refsEls, refsO, keepO, keepS, keysO, refsS, refsOB, cntN, headC, setS, boxO, row, -getElem?_pos]
def slp18 (xs : List (List PV)) (n : Nat) (ki : Int) (i : Nat) : SL := [(0, .l false xs), (3, .i .i64 n), (5, .i .i64 ki), (6, .i .i64 i)]
def slp18o (xs : List (List PV)) (n : Nat) : SL := [(0, .l false xs), (3, .i .i64 n)]
set_option maxHeartbeats 8000000 in
theorem stepp18 (N d : Nat) (g g1 : SL → OB → Option R) (xs : List (List PV)) (n i : Nat) (ki : Int) (a e : Evn) (ha : xs[n]? = some (evC a)) (hx : xs[i]? = some (evC e)) (hi : i < n) (hn : n ≤ 900) (he : fewE e) :
    m18b0 (sem tab (N + 1000) (d + 7)) (N + 1000) [] g g1 (slp18 xs n ki i) [] = cond (ki == 0 && (helE e && (a.draw == e.draw))) (some (.b false, [])) (g1 (slp18 xs n ki (i + 1)) []) := by
  have h31 := W31 N d e he
  have w2 := w64n (i := i) (by omega)
  have ci : (i : Int) < n := by omega
  have eh : helE e = (kindE e == 0) := rfl
  rw [eh]
  clear eh he
  generalize kindE e = k2 at *
  generalize fraZ e = fz at *
  obtain ⟨z1, z2, z3, z4, z5, z6, z7, z8, z9⟩ := fz
  obtain ⟨k, raw, dr, bo, ke⟩ := e
  obtain ⟨k', raw', dr', bo', ke'⟩ := a
  simp only [evC, frC] at hx ha h31 ⊢
  simp only [slp18]
  generalize byL raw = b at *
  generalize byL raw' = b' at *
  generalize uL z9 = q2 at *
  generalize hz' : List.replicate 32 (PV.i .u8 0) = zz at *
  generalize h1 : (ki == 0) = c1
  generalize h2 : (k2 == 0) = c2
  generalize h3 : (dr' == dr) = c3
  cases c1
  · simp -implicitDefEqProofs (maxSteps := 1000000) (disch := first | omega | rfl) [m18b0, hx, h31, h1, w2, ci, hz', KS, getS, getO, gS, dropW, takeW, wds, refs, refsL, noExt, noExts, ren, renL, keepO, keepS, keysO, refsS, refsOB, cntN, headC, boxO, putW, w64, -getElem?_pos]
  · cases c2
    · simp -implicitDefEqProofs (maxSteps := 1000000) (disch := first | omega | rfl) [m18b0, hx, h31, h1, h2, w2, ci, hz', KS, getS, getO, gS, dropW, takeW, wds, refs, refsL, noExt, noExts, ren, renL, keepO, keepS, keysO, refsS, refsOB, cntN, headC, boxO, putW, w64, -getElem?_pos]
    · cases c3 <;> simp -implicitDefEqProofs (maxSteps := 1000000) (disch := first | omega | rfl) [m18b0, ha, hx, h31, h1, h2, h3, w2, ci, hz', KS, getS, getO, gS, dropW, takeW, wds, refs, refsL, noExt, noExts, ren, renL, keepO, keepS, keysO, refsS, refsOB, cntN, headC, boxO, putW, w64, -getElem?_pos]
theorem endp18 (N d : Nat) (g g1 : SL → OB → Option R) (xs : List (List PV)) (n : Nat) (ki : Int) (hn : n ≤ 900) :
    m18b0 (sem tab N d) N [] g g1 (slp18 xs n ki n) [] = g (slp18o xs (n + 1)) [] := by
  have w2 := w64n (i := n) (by omega)
  simp only [slp18, slp18o]
  simp -implicitDefEqProofs (maxSteps := 1000000) (disch := first | omega | rfl) [m18b0, w2, KS, getS, gS, wds, refs, keepO, keepS, keysO, refsS, refsOB, headC, boxO, -getElem?_pos]
theorem loopp18 (N d : Nat) (g : SL → OB → Option R) (l : List Evn) (n : Nat) (hn : n < l.length) (hl : l.length ≤ 900) (ki : Int) (ho : ∀ e ∈ l, fewE e) : ∀ (k i e : Nat), i + k = n →
    loopC (m18b0 (sem tab (N + 1000) (d + 7)) (N + 1000) [] g) (e + 1 + k) (slp18 (evL l) n ki i) [] = cond (ki == 0 && ((l.take n).drop i).any (fun x => helE x && (l[n].draw == x.draw))) (some (.b false, [])) (g (slp18o (evL l) (n + 1)) []) := by
  intro k
  induction k with
  | zero =>
    intro i e h
    have : i = n := by omega
    subst this
    rw [Nat.add_zero, k_loop, endp18 _ _ _ _ _ _ _ (by omega), List.drop_of_length_le (by rw [List.length_take]; omega)]
    simp
  | succ k ih =>
    intro i e h
    have hi : i < n := by omega
    have hil : i < l.length := by omega
    rw [show e + 1 + (k + 1) = (e + 1 + k) + 1 by omega, k_loop, stepp18 N d g _ (evL l) n i ki l[n] l[i] (evL_get l n hn) (evL_get l i hil) hi (by omega) (ho _ (List.getElem_mem hil)), ih (i + 1) e (by omega)]
    rw [List.drop_eq_getElem_cons (l := l.take n) (i := i) (by rw [List.length_take]; omega)]
    simp only [List.any_cons, List.getElem_take]
    cases ki == 0 <;> cases helE l[i] && (l[n].draw == l[i].draw) <;> rfl
set_option maxHeartbeats 8000000 in
theorem outp18 (N d : Nat) (g : SL → OB → Option R) (l : List Evn) (n : Nat) (hn : n < l.length) (hl : l.length ≤ 900) (ho : ∀ e ∈ l, fewE e) :
    m18b1 (sem tab (N + 1000) (d + 7)) (N + 1000) [] g (slp18o (evL l) n) [] = cond (helE l[n] && hadE l[n] (l.take n)) (some (.b false, [])) (g (slp18o (evL l) (n + 1)) []) := by
  have h31 := W31 N d l[n] (ho _ (List.getElem_mem hn))
  have hL := loopp18 N d g l n hn hl (kindE l[n]) ho n 0 (N + 999 - n) (by omega)
  rw [show N + 999 - n + 1 + n = N + 1000 by omega, List.drop_zero] at hL
  have e1 : (kindE l[n] == 0 && (l.take n).any (fun x => helE x && (l[n].draw == x.draw))) = (helE l[n] && hadE l[n] (l.take n)) := by
    unfold hadE helE
    congr 1
    induction l.take n with
    | nil => rfl
    | cons x r ih => simp only [List.any_cons, ih]; rw [Bool.beq_comm (a := l[n].draw)]
  rw [e1] at hL
  have hx := evL_get l n hn
  have ci : (n : Int) < (evL l).length := by rw [evL_len]; omega
  clear e1 ho
  generalize cond (helE l[n] && hadE l[n] (l.take n)) = Q at *
  simp only [slp18, slp18o, show ((0 : Nat) : Int) = 0 from rfl] at hL ⊢
  generalize kindE l[n] = ki at *
  generalize fraZ l[n] = fz at *
  generalize l[n] = e at *
  obtain ⟨z1, z2, z3, z4, z5, z6, z7, z8, z9⟩ := fz
  obtain ⟨k, raw, dr, bo, ke⟩ := e
  simp only [evC, frC] at hx h31
  generalize byL raw = b at *
  generalize evL l = xs at *
  generalize uL z9 = q2 at *
  generalize hz' : List.replicate 32 (PV.i .u8 0) = zz at *
  generalize N + 1000 = M at *
  simp -implicitDefEqProofs (maxSteps := 1000000) (disch := first | omega | rfl) [m18b1, hx, h31, hL, ci, hz', KS, getS, getO, gS, dropW, takeW, wds, refs, refsL, noExt, noExts, ren, renL, keepO, keepS, keysO, refsS, refsOB, cntN, headC, boxO, putW, -getElem?_pos]
theorem outep18 (N d : Nat) (g : SL → OB → Option R) (xs : List (List PV)) : m18b1 (sem tab N d) N [] g (slp18o xs xs.length) [] = some (.b true, []) := by
  simp only [slp18o]
  simp -implicitDefEqProofs (maxSteps := 1000000) (disch := first | omega | rfl) [m18b1, KS, getS, gS, wds, refs, boxO, -getElem?_pos]
theorem loopo18 (N d : Nat) (l : List Evn) (hl : l.length ≤ 900) (ho : ∀ e ∈ l, fewE e) : ∀ (k n e : Nat), n + k = l.length →
    loopC (m18b1 (sem tab (N + 1000) (d + 7)) (N + 1000) []) (e + 1 + k) (slp18o (evL l) n) [] = some (.b (clrQ (l.take n) (l.drop n)), []) := by
  intro k
  induction k with
  | zero =>
    intro n e h
    have : n = l.length := by omega
    subst this
    have e3 := outep18 (N + 1000) (d + 7) (loopC (m18b1 (sem tab (N + 1000) (d + 7)) (N + 1000) []) e) (evL l)
    rw [evL_len] at e3
    rw [Nat.add_zero, k_loop, e3, List.drop_length]; rfl
  | succ k ih =>
    intro n e h
    have hn : n < l.length := by omega
    rw [show e + 1 + (k + 1) = (e + 1 + k) + 1 by omega, k_loop, outp18 N d _ l n hn hl ho, ih (n + 1) e (by omega)]
    rw [List.drop_eq_getElem_cons hn]
    simp only [clrQ]
    rw [List.take_add_one, List.getElem?_eq_getElem hn, Option.toList_some]
    cases helE l[n] && hadE l[n] (l.take n) <;> rfl
theorem W18 (N d : Nat) (l : List Evn) (hl : l.length ≤ 900) (ho : ∀ e ∈ l, fewE e) : sem tab (N + 1000) (d + 8) 18 [.l false (evL l)] [] = some (.b (clrL [] l), []) := by
  rw [sem_succ tab (N + 1000) (d + 7) 18 m18 rfl]
  have hL := loopo18 N d l hl ho l.length 0 (N + 999 - l.length) (by omega)
  rw [show N + 999 - l.length + 1 + l.length = N + 1000 by omega, List.drop_zero, List.take_zero, ← clrL_Q] at hL
  have e0 : drawsE [] = [] := rfl
  rw [e0] at hL
  simp only [slp18o, show ((0 : Nat) : Int) = 0 from rfl] at hL
  generalize evL l = xs at *
  generalize N + 1000 = M at *
  simp -implicitDefEqProofs (maxSteps := 1000000) (disch := first | omega | rfl) [m18, hL, KS, getS, gS, zipN, refs, keepO, keepS, keysO, refsS, refsOB, cntN, headC, -getElem?_pos]
end
section
def eqEv (a b : Evn) : Bool := (a.k == b.k) && (decide (chars a.raw = chars b.raw) && ((a.draw == b.draw) && ((a.boom == b.boom) && (a.keep == b.keep))))
def slp15 (xs ys : List (List PV)) (i : Nat) : SL := [(0, .l false xs), (1, .l false ys), (5, .i .i64 i)]
set_option maxHeartbeats 16000000 in
theorem stepp15 (N d : Nat) (g : SL → OB → Option R) (xs ys : List (List PV)) (i : Nat) (a e : Evn) (ta te : Bool) (ha : xs[i]? = some (evG ta a)) (hx : ys[i]? = some (evG te e)) (hi : i < xs.length) (hn : xs.length ≤ 900) :
    m15b0 (sem tab N d) N [] g (slp15 xs ys i) [] = cond (eqEv a e) (g (slp15 xs ys (i + 1)) []) (some (.b false, [])) := by
  have w2 := w64n (i := i) (by omega)
  have ci : (i : Int) < xs.length := by omega
  have b1 := unB_by a.raw
  have b2 := unB_by e.raw
  unfold eqEv
  obtain ⟨k, raw, dr, bo, ke⟩ := e
  obtain ⟨k', raw', dr', bo', ke'⟩ := a
  simp only [evG] at hx ha b1 b2 ⊢
  simp only [slp15]
  generalize byL raw = b at *
  generalize byL raw' = b' at *
  generalize chars raw = c at *
  generalize chars raw' = c' at *
  have n1 : ∀ p q : Int, (p != q) = !(p == q) := fun p q => rfl
  have n2 : ∀ p q : Bool, (p != q) = !(p == q) := fun p q => rfl
  generalize h1 : (k' == k) = q1
  generalize h2 : decide (c' = c) = q2
  generalize h3 : (dr' == dr) = q3
  generalize h4 : (bo' == bo) = q4
  generalize h5 : (ke' == ke) = q5
  cases q1
  · simp -implicitDefEqProofs (maxSteps := 1000000) (disch := first | omega | rfl) [m15b0, ha, hx, h1, n1, w2, ci, KS, getS, gS, dropW, wds, refs, keepO, keepS, keysO, refsS, refsOB, headC, -getElem?_pos]
  · cases q2
    · simp -implicitDefEqProofs (maxSteps := 1000000) (disch := first | omega | rfl) [m15b0, ha, hx, b1, b2, h1, h2, n1, w2, ci, KS, getS, gS, dropW, wds, refs, keepO, keepS, keysO, refsS, refsOB, headC, -getElem?_pos]
    · cases q3
      · simp -implicitDefEqProofs (maxSteps := 1000000) (disch := first | omega | rfl) [m15b0, ha, hx, b1, b2, h1, h2, h3, n1, w2, ci, KS, getS, gS, dropW, wds, refs, keepO, keepS, keysO, refsS, refsOB, headC, -getElem?_pos]
      · cases q4
        · simp -implicitDefEqProofs (maxSteps := 1000000) (disch := first | omega | rfl) [m15b0, ha, hx, b1, b2, h1, h2, h3, h4, n1, w2, ci, KS, getS, gS, dropW, wds, refs, keepO, keepS, keysO, refsS, refsOB, headC, -getElem?_pos]
        · cases q5 <;> simp -implicitDefEqProofs (maxSteps := 1000000) (disch := first | omega | rfl) [m15b0, ha, hx, b1, b2, h1, h2, h3, h4, h5, n1, w2, ci, KS, getS, gS, dropW, wds, refs, keepO, keepS, keysO, refsS, refsOB, headC, -getElem?_pos]
theorem eqEv_self (a : Evn) : eqEv a a = true := by simp [eqEv]
theorem endp15 (N d : Nat) (g : SL → OB → Option R) (xs ys : List (List PV)) : m15b0 (sem tab N d) N [] g (slp15 xs ys xs.length) [] = some (.b true, []) := by
  simp only [slp15]
  simp -implicitDefEqProofs (maxSteps := 1000000) (disch := first | omega | rfl) [m15b0, KS, getS, gS, refs, keepO, keepS, keysO, refsS, refsOB, headC, -getElem?_pos]
theorem loopp15 (N d : Nat) (xs ys : List (List PV)) (l : List Evn) (hR : EvR xs l) (hS : EvR ys l) (hl : l.length ≤ 900) : ∀ (k i e : Nat), i + k = l.length →
    loopC (m15b0 (sem tab N d) N []) (e + 1 + k) (slp15 xs ys i) [] = some (.b true, []) := by
  intro k
  induction k with
  | zero =>
    intro i e h
    have : i = xs.length := by rw [hR.1]; omega
    subst this
    rw [Nat.add_zero, k_loop, endp15]
  | succ k ih =>
    intro i e h
    have hi : i < l.length := by omega
    obtain ⟨ta, ha⟩ := hR.2 i hi
    obtain ⟨te, he⟩ := hS.2 i hi
    rw [show e + 1 + (k + 1) = (e + 1 + k) + 1 by omega, k_loop, stepp15 N d _ xs ys i l[i] l[i] ta te ha he (by rw [hR.1]; exact hi) (by rw [hR.1]; exact hl), eqEv_self, cond_true, ih (i + 1) e (by omega)]
theorem W15 (N d : Nat) (xs ys : List (List PV)) (l : List Evn) (hR : EvR xs l) (hS : EvR ys l) (hl : l.length ≤ 900) : sem tab (N + 1000) (d + 1) 15 [.l false xs, .l false ys] [] = some (.b true, []) := by
  rw [sem_succ tab (N + 1000) d 15 m15 rfl]
  have hL := loopp15 (N + 1000) d xs ys l hR hS hl l.length 0 (N + 999 - l.length) (by omega)
  rw [show N + 999 - l.length + 1 + l.length = N + 1000 by omega] at hL
  have hq : ((xs.length : Int) != ys.length) = false := by rw [hR.1, hS.1]; simp
  simp only [slp15, show ((0 : Nat) : Int) = 0 from rfl] at hL
  generalize N + 1000 = M at *
  simp -implicitDefEqProofs (maxSteps := 1000000) (disch := first | omega | rfl) [m15, hL, hq, KS, getS, gS, zipN, refs, keepO, keepS, keysO, refsS, refsOB, cntN, headC, -getElem?_pos]
end
section
section
variable (ob : OB) (d w k o v i n : Nat) (l : List PV) (X : Obj')
theorem k_bldP' : bldP ob d w l = bldU ob (bldS ob d w l) := rfl
theorem k_bldU' (u : PV) : bldU ob (some (u, [(k, X)])) = if X.pu = true ∨ X.fro = true then some (u, [(k, X)]) else bldQ ob u k X (purEls ((k, X) :: ob) X.els) := rfl
theorem k_bldQ' (u : PV) (els : List (List PV)) (g : Bool) (z : OB) : bldQ ob u k X (some (els, g, z)) = if ((z.any fun y => y.1 == k) || (mpo X).isSome) = true then none else some (u, (k, { X with els := els, pu := true, g := g }) :: (z ++ [(k, X)])) := rfl
theorem k_pur0' : purEls ob [] = some ([], true, []) := rfl
theorem k_pur1' (x : List PV) (r : List (List PV)) : purEls ob (x :: r) = purC (puris ob x) (purEls ob r) := rfl
theorem k_purC' (a : List PV) (b : List (List PV)) (g g' : Bool) (u u' : OB) : purC (some (a, g, u)) (some (b, g', u')) = some (a :: b, g && g', u ++ u') := rfl
theorem k_puri_sl' : puri ob (.sl o v i n) = frzX (getO ob o) o (contX (getO ob o) v i n) := rfl
theorem k_frzX' (g : Bool) (xs : List (List PV)) : frzX (some X) o (some (g, xs)) = some (.l g xs, g, [(o, { X with fro := true })]) := rfl
theorem k_puris0p : puris ob [] = some ([], true, []) := rfl
theorem k_puris1p (x : PV) (r : List PV) : puris ob (x :: r) = puriC (puri ob x) (puris ob r) := rfl
theorem k_puriC' (a : PV) (b : List PV) (g g' : Bool) (u u' : OB) : puriC (some (a, g, u)) (some (b, g', u')) = some (a :: b, g && g', u ++ u') := rfl
theorem k_puri_ip (k : IntKind) (z : Int) : puri ob (.i k z) = some (.i k z, true, []) := rfl
theorem k_puri_bp (z : Bool) : puri ob (.b z) = some (.b z, true, []) := rfl
theorem k_puri_ep (z : Bool) : puri ob (.e z) = some (.l true [], true, []) := rfl
theorem k_puri_lp (g : Bool) (z : List (List PV)) : puri ob (.l g z) = some (.l g z, g, []) := rfl
end
def KQ := And.intro @k_bldP' (And.intro @k_bldU' (And.intro @k_bldQ' (And.intro @k_pur0' (And.intro @k_pur1' (And.intro @k_purC' (And.intro @k_puri_sl' (And.intro @k_frzX' (And.intro @k_puris0p (And.intro @k_puris1p (And.intro @k_puriC' (And.intro @k_puri_ip (And.intro @k_puri_bp (And.intro @k_puri_ep @k_puri_lp)))))))))))))
def stripW (us : List Us) : List Int → List Evn → List Evn
  | w :: ws, e :: r => (if vieU us w = true then (if brkE e = true then [crE] else []) else [e]) ++ stripW us ws r
  | _, _ => []
theorem stripL_W (us : List Us) : ∀ (l : List Evn) (m : Mp), stripL us m l = stripW us (whoL us m l) l
  | [], _ => rfl
  | e :: r, m => by simp only [stripL, whoL, stripW, stripL_W us r]
theorem stripW_len (us : List Us) : ∀ (ws : List Int) (l : List Evn), (stripW us ws l).length ≤ l.length
  | [], _ => by simp [stripW]
  | _ :: _, [] => by simp [stripW]
  | w :: ws, e :: r => by
    have := stripW_len us ws r
    simp only [stripW, List.length_append, List.length_cons]
    split
    · split <;> simp <;> omega
    · simp; omega
def evT (l : List Evn) : List (List PV) := l.map (evG true)
theorem evT_R (l : List Evn) : EvR (evT l) l := ⟨by simp [evT], fun i h => ⟨true, by simp [evT, h]⟩⟩
theorem evT_app (a b : List Evn) : evT (a ++ b) = evT a ++ evT b := by simp [evT]
theorem evT_len (a : List Evn) : (evT a).length = a.length := by simp [evT]
def slp16 (xs : List (List PV)) (n i t : Nat) : SL := [(2, .p 80 0 0 0 none), (5, .sl 111 0 0 n), (6, .sl 119 0 0 t), (12, .l false xs), (13, .i .i64 n), (14, .i .i64 i)]
def obp16 (us : List Us) (P : List (List PV)) (x y : Int) (ws t : List (List PV)) : OB := [(111, row ws 1 true), (119, row t 5 true), (80, bxC us P x y)]
def keepW (us : List Us) (w : Int) (e : Evn) : List Evn := if vieU us w = true then (if brkE e = true then [crE] else []) else [e]
set_option maxHeartbeats 16000000 in
theorem stepp16 (N d : Nat) (g : SL → OB → Option R) (us : List Us) (P : List (List PV)) (x y : Int) (xs ws t : List (List PV)) (n i : Nat) (w : Int) (e : Evn) (tg : Bool) (hx : xs[i]? = some (evG tg e)) (hw : ws[i]? = some [.i .i64 w]) (hi : i < n) (hwl : ws.length = n) (hn : n ≤ 900) (hu : us.length < 1000) (he : fewE e) (ht : t.length ≤ 100000) :
    m16b0 (sem tab (N + 1001) (d + 4)) (N + 1001) [] g (slp16 xs n i t.length) (obp16 us P x y ws t) =
      g (slp16 xs n (i + 1) (t ++ evT (keepW us w e)).length) (obp16 us P x y ws (t ++ evT (keepW us w e))) := by
  have h22 := U36u N d us w hu
  have h28 := L39 (N + 1001) (d + 3) e.raw (by have := he.1; omega)
  have h26 := W26 (N + 1001) (d + 3) e
  have w2 := w64n (i := i) (by omega)
  have ci : (i : Int) < n := by omega
  have t2 : List.take t.length t = t := List.take_length
  have e0 : t.length + 1 ≤ 4294967296 := by omega
  have e1 : ¬ (t.length + 1 ≤ t.length) := by omega
  have bl := byL_len e.raw
  have tb : List.take e.raw.length (byL e.raw) = byL e.raw := by rw [← bl]; exact List.take_length
  have a1 := allW_us us
  have tw : List.take n ws = ws := by rw [← hwl]; exact List.take_length
  unfold keepW vieU
  simp only [slp16, obp16, bxC, cfC]
  clear he
  generalize roleU us w = ro at *
  by_cases hr : ro = 0
  · subst hr
    rw [show ((0 : Int) == 0) = true from rfl, if_pos rfl]
    cases hb : brkE e
    · rw [if_neg (by simp)]
      rw [hb] at h26
      obtain ⟨k, raw, dr, bo, ke⟩ := e
      simp only [evC, evG] at hx h26
      simp only [evT, List.map_nil, List.append_nil]
      clear h28 tb bl
      generalize byL raw = b at *
      generalize usL us = a at *
      simp -implicitDefEqProofs (maxSteps := 1000000) (disch := first | omega | rfl) [m16b0, hx, hw, h22, h26, w2, ci, t2, hwl, KS, getS, getO, gS, dropW, takeW, wds, refs, refsL, refsEls, refsO, noExt, ren, keepO, keepS, keysO, refsS, refsOB, cntN, headC, setS, boxO, row, putW, putB, -getElem?_pos]
    · rw [if_pos rfl]
      rw [hb] at h26
      obtain ⟨k, raw, dr, bo, ke⟩ := e
      have e4 : List.take (t.length + 1) (t ++ [[PV.i .i64 2, PV.l true [], PV.i .u64 0, PV.b false, PV.i .i64 0]]) = t ++ [[PV.i .i64 2, PV.l true [], PV.i .u64 0, PV.b false, PV.i .i64 0]] := List.take_of_length_le (by simp)
      simp only [evC, evG] at hx h26
      simp only [evT, List.map_cons, List.map_nil, evG, crE, show byL [] = [] from rfl, List.length_append, List.length_singleton]
      clear h28 tb bl
      generalize byL raw = b at *
      generalize usL us = a at *
      simp -implicitDefEqProofs (maxSteps := 1000000) (disch := first | omega | rfl) [m16b0, hx, hw, h22, h26, w2, ci, t2, hwl, e0, e1, KQ, mpo, KS, getS, getO, gS, dropW, takeW, wds, stvs, refs, refsL, refsEls, refsO, isPureEls, isPures, isPure, noExt, noExts, noExtEls, cellsL, ren, keepO, keepS, keysO, refsS, refsOB, cntN, headC, setS, boxO, row, putW, putB, two32, -getElem?_pos]
  · have hr' : (ro != 0) = true := by simpa using hr
    rw [show (ro == 0) = false by simpa using hr, if_neg (by simp)]
    clear h26
    obtain ⟨k, raw, dr, bo, ke⟩ := e
    simp only [evG] at hx h28 bl tb
    simp only [evT, List.map_cons, List.map_nil, evG, List.length_append, List.length_singleton]
    rw [← bl] at h28 tb
    clear bl
    generalize byL raw = b at *
    generalize usL us = a at *
    have e4 : List.take (t.length + 1) (t ++ [[PV.i .i64 k, PV.l true b, PV.i .u64 dr, PV.b bo, PV.i .i64 ke]]) = t ++ [[PV.i .i64 k, PV.l true b, PV.i .u64 dr, PV.b bo, PV.i .i64 ke]] := List.take_of_length_le (by simp)
    simp -implicitDefEqProofs (maxSteps := 1000000) (disch := first | omega | rfl) [m16b0, hx, hw, h22, h28, hr', w2, ci, t2, hwl, tb, e0, e1, KQ, mpo, KS, getS, getO, gS, dropW, takeW, wds, stvs, refs, refsL, refsEls, refsO, isPureEls, isPures, isPure, noExt, noExts, noExtEls, cellsL, ren, keepO, keepS, keysO, refsS, refsOB, cntN, headC, setS, boxO, row, putW, putB, newOs, renO, noExtO, two32, -getElem?_pos]
theorem endp16 (N d : Nat) (g : SL → OB → Option R) (us : List Us) (P : List (List PV)) (x y : Int) (xs ws t : List (List PV)) (n : Nat) :
    m16b0 (sem tab N d) N [] g (slp16 xs n n t.length) (obp16 us P x y ws t) = some (.sl 0 0 0 t.length, [row t 5 true]) := by
  have t2 : List.take t.length t = t := List.take_length
  simp only [slp16, obp16, bxC]
  simp -implicitDefEqProofs (maxSteps := 1000000) (disch := first | omega | rfl) [m16b0, t2, KS, getS, getO, gS, dropW, takeW, wds, refs, cntN, boxO, row, putW, putB, -getElem?_pos]
theorem loopp16 (N d : Nat) (us : List Us) (P : List (List PV)) (x y : Int) (xs : List (List PV)) (l : List Evn) (ws : List Int) (hR : EvR xs l) (hw : ws.length = l.length) (hn : l.length ≤ 900) (hu : us.length < 1000) (ho : ∀ e ∈ l, fewE e) : ∀ (k i e : Nat) (t : List (List PV)), i + k = l.length → t.length ≤ i →
    loopC (m16b0 (sem tab (N + 1001) (d + 4)) (N + 1001) []) (e + 1 + k) (slp16 xs l.length i t.length) (obp16 us P x y (iL ws) t) =
      some (.sl 0 0 0 (t ++ evT (stripW us (ws.drop i) (l.drop i))).length, [row (t ++ evT (stripW us (ws.drop i) (l.drop i))) 5 true]) := by
  intro k
  induction k with
  | zero =>
    intro i e t h ht
    have : i = l.length := by omega
    subst this
    rw [Nat.add_zero, k_loop, endp16, List.drop_length, show ws.drop l.length = [] by rw [← hw]; exact List.drop_length]
    simp [stripW, evT]
  | succ k ih =>
    intro i e t h ht
    have hi : i < l.length := by omega
    have hj : i < ws.length := by omega
    obtain ⟨tg, hx⟩ := hR.2 i hi
    have kl : (evT (keepW us ws[i] l[i])).length ≤ 1 := by
      rw [evT_len]; unfold keepW; split
      · split <;> simp
      · simp
    rw [show e + 1 + (k + 1) = (e + 1 + k) + 1 by omega, k_loop, stepp16 N d _ us P x y xs (iL ws) t l.length i ws[i] l[i] tg hx (iL_get ws i hj) hi (by rw [iL_len, hw]) hn hu (ho _ (List.getElem_mem hi)) (by omega)]
    rw [ih (i + 1) e _ (by omega) (by rw [List.length_append]; omega)]
    have da : l.drop i = l[i] :: l.drop (i + 1) := List.drop_eq_getElem_cons hi
    have dw : ws.drop i = ws[i] :: ws.drop (i + 1) := List.drop_eq_getElem_cons hj
    rw [da, dw]
    have es : stripW us (ws[i] :: ws.drop (i + 1)) (l[i] :: l.drop (i + 1)) = keepW us ws[i] l[i] ++ stripW us (ws.drop (i + 1)) (l.drop (i + 1)) := rfl
    rw [es, evT_app, List.append_assoc]
set_option maxHeartbeats 4000000 in
theorem W16 (N d : Nat) (us : List Us) (P : List (List PV)) (x y : Int) (xs : List (List PV)) (l : List Evn) (hR : EvR xs l) (hu : us.length < 1000) (hn : l.length ≤ 900) (ho : ∀ e ∈ l, fewE e) :
    sem tab (N + 1001) (d + 9) 16 [.agg (cfC us P x y), .l false xs] [] = some (.sl 0 0 0 (evT (stripL us [] l)).length, [row (evT (stripL us [] l)) 5 true]) := by
  rw [sem_succ tab (N + 1001) (d + 8) 16 m16 rfl]
  have h13 := W13 N d us P x y xs l hR hu (by omega) ho
  have hL := loopp16 N (d + 4) us P x y xs l (whoL us [] l) hR (whoL_len us l []) hn hu ho l.length 0 (N + 1000 - l.length) [] (by omega) (by simp)
  rw [show N + 1000 - l.length + 1 + l.length = N + 1001 by omega, List.drop_zero, List.drop_zero, ← stripL_W, List.nil_append] at hL
  have e3 := hR.1
  have e2 : (iL (whoL us [] l)).length = l.length := by rw [iL_len, whoL_len]
  have tw : List.take l.length (iL (whoL us [] l)) = iL (whoL us [] l) := by rw [← e2]; exact List.take_length
  simp only [slp16, obp16, bxC, cfC, row, List.length_nil, show ((0 : Nat) : Int) = 0 from rfl] at hL
  simp only [cfC]
  have a1 := allW_us us
  generalize evT (stripL us [] l) = o at *
  generalize iL (whoL us [] l) = w at *
  generalize usL us = a at *
  generalize N + 1001 = M at *
  simp -implicitDefEqProofs (maxSteps := 1000000) (disch := first | omega | rfl) [m16, h13, hL, e3, e2, KS, getS, getO, gS, zipN, dropW, takeW, wds, refs, refsL, refsEls, refsO, noExt, ren, keepO, keepS, keysO, refsS, refsOB, cntN, headC, setS, boxO, row, newOs, renO, noExtO, -getElem?_pos]
end
section
def slp17 (xs : List (List PV)) (i t : Nat) : SL := [(1, .l false xs), (2, .p 80 0 0 0 none), (5, .sl 111 0 0 t), (6, .i .i64 i)]
def obp17 (us : List Us) (P : List (List PV)) (x y : Int) (g : Bool) (t : List (List PV)) : OB := [(111, row t 5 g), (80, bxC us P x y)]
set_option maxHeartbeats 16000000 in
theorem stepp17 (N d : Nat) (g : SL → OB → Option R) (us : List Us) (P : List (List PV)) (x y : Int) (l : List Evn) (t : List (List PV)) (i : Nat) (gr : Bool) (hi : i < l.length) (hn : l.length ≤ 900) (hu : us.length ≤ 10) (ho : ∀ e ∈ l, fewE e) (ht : t.length ≤ 100000) :
    ∃ (gr' : Bool) (T : List (List PV)), EvR T (keepW us (whoR us (l.take i) l[i]) l[i]) ∧ m17b0 (sem tab (N + 1000) (d + 8)) (N + 1000) [] g (slp17 (evL l) i t.length) (obp17 us P x y gr t) =
      g (slp17 (evL l) (i + 1) (t ++ T).length) (obp17 us P x y gr' (t ++ T)) := by
  have h27 := W27 N d us P x y l i hi hn hu ho
  generalize whoR us (l.take i) l[i] = w at *
  have h30 := U37u N (d + 4) us w hu
  have h29 := W29 (N + 1000) (d + 7) l[i]
  have hx := evL_get l i hi
  have w2 := w64n (i := i) (by omega)
  have ci : (i : Int) < (evL l).length := by rw [evL_len]; omega
  have t2 : List.take t.length t = t := List.take_length
  have e0 : t.length + 1 ≤ 4294967296 := by omega
  have e1 : ¬ (t.length + 1 ≤ t.length) := by omega
  have a1 := allW_us us
  unfold keepW vieU
  simp only [slp17, obp17, bxC, cfC] at h27 ⊢
  clear ho
  generalize roleU us w = ro at *
  generalize l[i] = e at *
  generalize evL l = xs at *
  by_cases hr : ro = 0
  · subst hr
    rw [show ((0 : Int) == 0) = true from rfl, if_pos rfl]
    cases hb : brkE e
    · rw [if_neg (by simp)]
      rw [hb] at h29
      refine ⟨gr, [], EvR_nil, ?_⟩
      obtain ⟨k, raw, dr, bo, ke⟩ := e
      simp only [evC] at hx h29
      rw [List.append_nil]
      generalize byL raw = b at *
      generalize usL us = a at *
      simp -implicitDefEqProofs (maxSteps := 1000000) (disch := first | omega | rfl) [m17b0, hx, h27, h30, h29, w2, ci, t2, KS, getS, getO, gS, dropW, takeW, wds, refs, refsL, refsEls, refsO, noExt, ren, keepO, keepS, keysO, refsS, refsOB, cntN, headC, setS, row, putW, putB, -getElem?_pos]
    · rw [if_pos rfl]
      rw [hb] at h29
      refine ⟨gr, [evG true crE], EvR_one true crE, ?_⟩
      obtain ⟨k, raw, dr, bo, ke⟩ := e
      have e4 : List.take (t.length + 1) (t ++ [[PV.i .i64 2, PV.l true [], PV.i .u64 0, PV.b false, PV.i .i64 0]]) = t ++ [[PV.i .i64 2, PV.l true [], PV.i .u64 0, PV.b false, PV.i .i64 0]] := List.take_of_length_le (by simp)
      simp only [evC] at hx h29
      simp only [evG, crE, show byL [] = [] from rfl, List.length_append, List.length_singleton]
      generalize byL raw = b at *
      generalize usL us = a at *
      simp -implicitDefEqProofs (maxSteps := 1000000) (disch := first | omega | rfl) [m17b0, hx, h27, h30, h29, w2, ci, t2, e0, e1, KQ, mpo, KS, getS, getO, gS, dropW, takeW, wds, stvs, refs, refsL, refsEls, refsO, isPureEls, isPures, isPure, noExt, noExts, noExtEls, cellsL, ren, keepO, keepS, keysO, refsS, refsOB, cntN, headC, setS, row, putW, putB, two32, -getElem?_pos]
  · have hr' : (ro != 0) = true := by simpa using hr
    rw [show (ro == 0) = false by simpa using hr, if_neg (by simp)]
    refine ⟨false, [evG false e], EvR_one false e, ?_⟩
    obtain ⟨k, raw, dr, bo, ke⟩ := e
    simp only [evC] at hx h29
    simp only [evG, List.length_append, List.length_singleton]
    generalize byL raw = b at *
    generalize usL us = a at *
    have e4 : List.take (t.length + 1) (t ++ [[PV.i .i64 k, PV.l false b, PV.i .u64 dr, PV.b bo, PV.i .i64 ke]]) = t ++ [[PV.i .i64 k, PV.l false b, PV.i .u64 dr, PV.b bo, PV.i .i64 ke]] := List.take_of_length_le (by simp)
    simp -implicitDefEqProofs (maxSteps := 1000000) (disch := first | omega | rfl) [m17b0, hx, h27, h30, h29, hr', w2, ci, t2, e0, e1, KQ, mpo, flatEls, flats, flat, KS, getS, getO, gS, dropW, takeW, wds, stvs, refs, refsL, refsEls, refsO, isPureEls, isPures, isPure, noExt, noExts, noExtEls, cellsL, ren, keepO, keepS, keysO, refsS, refsOB, cntN, headC, setS, row, putW, putB, two32, -getElem?_pos]
theorem endp17 (N d : Nat) (g : SL → OB → Option R) (us : List Us) (P : List (List PV)) (x y : Int) (xs t : List (List PV)) (gr : Bool) :
    m17b0 (sem tab N d) N [] g (slp17 xs xs.length t.length) (obp17 us P x y gr t) = some (.sl 0 0 0 t.length, [row t 5 gr]) := by
  have t2 : List.take t.length t = t := List.take_length
  simp only [slp17, obp17, bxC]
  simp -implicitDefEqProofs (maxSteps := 1000000) (disch := first | omega | rfl) [m17b0, t2, KS, getS, getO, gS, dropW, takeW, wds, refs, cntN, row, putW, putB, -getElem?_pos]
theorem keepW_len (us : List Us) (w : Int) (e : Evn) : (keepW us w e).length ≤ 1 := by
  unfold keepW; split
  · split <;> simp
  · simp
theorem loopp17 (N d : Nat) (us : List Us) (P : List (List PV)) (x y : Int) (l : List Evn) (hn : l.length ≤ 900) (hu : us.length ≤ 10) (ho : ∀ e ∈ l, fewE e) : ∀ (k i e : Nat) (t : List (List PV)) (gr : Bool), i + k = l.length → t.length ≤ i →
    ∃ (gr' : Bool) (T : List (List PV)), EvR T (stripW us ((whoL us [] l).drop i) (l.drop i)) ∧ loopC (m17b0 (sem tab (N + 1000) (d + 8)) (N + 1000) []) (e + 1 + k) (slp17 (evL l) i t.length) (obp17 us P x y gr t) =
      some (.sl 0 0 0 (t ++ T).length, [row (t ++ T) 5 gr']) := by
  intro k
  induction k with
  | zero =>
    intro i e t gr h ht
    have : i = l.length := by omega
    subst this
    have e3 := endp17 (N + 1000) (d + 8) (loopC (m17b0 (sem tab (N + 1000) (d + 8)) (N + 1000) []) e) us P x y (evL l) t gr
    rw [evL_len] at e3
    refine ⟨gr, [], ?_, by rw [Nat.add_zero, k_loop, e3, List.append_nil]⟩
    rw [List.drop_length, show (whoL us [] l).drop l.length = [] by rw [← whoL_len us l []]; exact List.drop_length]
    exact EvR_nil
  | succ k ih =>
    intro i e t gr h ht
    have hi : i < l.length := by omega
    have hw := whoL_get us l [] i l[i] (List.getElem?_eq_getElem hi)
    rw [← whoR_S] at hw
    have hj : i < (whoL us [] l).length := by rw [whoL_len]; exact hi
    have dw : (whoL us [] l).drop i = whoR us (l.take i) l[i] :: (whoL us [] l).drop (i + 1) := by
      rw [List.drop_eq_getElem_cons hj]
      rw [List.getElem?_eq_getElem hj] at hw
      injection hw with hw
      rw [hw]
    have da : l.drop i = l[i] :: l.drop (i + 1) := List.drop_eq_getElem_cons hi
    obtain ⟨g1, T1, r1, s1⟩ := stepp17 N d (loopC (m17b0 (sem tab (N + 1000) (d + 8)) (N + 1000) []) (e + 1 + k)) us P x y l t i gr hi hn hu ho (by omega)
    have hT : T1.length ≤ 1 := by rw [r1.1]; exact keepW_len _ _ _
    obtain ⟨g2, T2, r2, s2⟩ := ih (i + 1) e (t ++ T1) g1 (by omega) (by rw [List.length_append]; omega)
    refine ⟨g2, T1 ++ T2, ?_, ?_⟩
    · rw [dw, da]
      exact EvR_app r1 r2
    · rw [show e + 1 + (k + 1) = (e + 1 + k) + 1 by omega, k_loop, s1, s2, List.append_assoc]
set_option maxHeartbeats 4000000 in
theorem W17 (N d : Nat) (us : List Us) (P : List (List PV)) (x y : Int) (l : List Evn) (hn : l.length ≤ 900) (hu : us.length ≤ 10) (ho : ∀ e ∈ l, fewE e) :
    ∃ (gr : Bool) (T : List (List PV)), EvR T (stripL us [] l) ∧ sem tab (N + 1000) (d + 9) 17 [.agg (cfC us P x y), .l false (evL l)] [] = some (.sl 0 0 0 T.length, [row T 5 gr]) := by
  obtain ⟨gr, T, r1, hL⟩ := loopp17 N d us P x y l hn hu ho l.length 0 (N + 999 - l.length) [] true (by omega) (by simp)
  rw [show N + 999 - l.length + 1 + l.length = N + 1000 by omega, List.nil_append] at hL
  rw [List.drop_zero, List.drop_zero, ← stripL_W] at r1
  refine ⟨gr, T, r1, ?_⟩
  rw [sem_succ tab (N + 1000) (d + 8) 17 m17 rfl]
  simp only [slp17, obp17, bxC, cfC, row, List.length_nil, show ((0 : Nat) : Int) = 0 from rfl] at hL
  simp only [cfC]
  generalize evL l = xs at *
  generalize usL us = a at *
  generalize N + 1000 = M at *
  simp -implicitDefEqProofs (maxSteps := 1000000) (disch := first | omega | rfl) [m17, hL, KS, getS, getO, gS, zipN, wds, refs, refsL, refsEls, refsO, keepO, keepS, keysO, refsS, refsOB, cntN, headC, setS, boxO, row, -getElem?_pos]
end
section
theorem fewU_len {l : List Us} (h : fewU l = true) : l.length ≤ 10 := by
  simp only [fewU, Bool.and_eq_true, decide_eq_true_eq] at h; exact h.1
theorem awakeP : sem tab 2001 11 9 [] [] = some (.b true, []) := by kernel_rfl
end
end Go.Proofs.Ytnkapponcbgbhaa
