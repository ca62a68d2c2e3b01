/- Plain lemmas, part 2. -/
import Derived.Test.YtmhpkdcnhgmblaaPgA
import Derived.KernelRfl
set_option linter.all false
set_option linter.unusedSimpArgs false
set_option linter.unusedVariables false
namespace Go.Proofs.Ytmhpkdcnhgmblaa
open Go
section
attribute [local congr] bnd_cg bndO_cg br_cg
def sl11 (b : List (List PV)) (t : Bool) (at' : Int) (n i : Nat) : SL := [(0, .l false b), (2, .p 80 0 0 0 none), (5, .p 104 0 0 0 none), (7, .b t), (8, .i .i64 at'), (42, .sl 376 0 0 n), (43, .i .i64 n), (44, .i .i64 i)]
def ob11 (k : Int) (h : Fra) : OB := [(80, fbox zeF), (104, fbox h), (376, rowS (slF 104 k) (cpF k))]
set_option maxHeartbeats 4000000 in
theorem s11_0_0 (Φ : Sem') (N : Nat) (g : SL → OB → Option R) (b : List (List PV)) (v0 : Int) (hw : IntKind.i64.wrap v0 = v0) (H : Φ 23 [.l false b, .i .i64 3, .i .i64 1] [] = some (.tup [.i .u64 v0, .i .i64 4], [])) :
    m11b0 Φ N [] g (sl11 b false 3 2 0) (ob11 0 ⟨0, 0, 0, 0, 0, 0, 0, 0, z32⟩) = g (sl11 b false 4 2 1) (ob11 0 ⟨0, v0, 0, 0, 0, 0, 0, 0, z32⟩) := by
  simp only [sl11, ob11, fbox, frC, rowS, sU, sN, box, slF, cpF, zeF]
  generalize uL z32 = z at *
  simp -implicitDefEqProofs (maxSteps := 1000000) (disch := first | omega | rfl) [m11b0, H, hw, KF, KS, getS, getO, gS, zipN, dropW, takeW, wds, stvs, sea, seaL, refs, refsL, refsEls, refsO, isPureEls, isPures, isPure, noExt, noExts, noExtEls, cellsL, ren, renL, renEls, keepO, keepS, keysO, refsS, refsOB, headC, setS, boxO, row, putW, putB, putB1, eNl, newOs, frz, renO, noExtO, zps, zp, two32, w64, -getElem?_pos, k_cnt, k_cnt0]
set_option maxHeartbeats 4000000 in
theorem x11_0_0 (Φ : Sem') (N : Nat) (g : SL → OB → Option R) (b : List (List PV)) (H : Φ 23 [.l false b, .i .i64 3, .i .i64 1] [] = some (.tup [.i .u64 0, .i .i64 (-1)], [])) :
    m11b0 Φ N [] g (sl11 b false 3 2 0) (ob11 0 ⟨0, 0, 0, 0, 0, 0, 0, 0, z32⟩) = some (.tup [.agg (frC zeF), .i .i64 3], []) := by
  have hu := uz32
  simp only [sl11, ob11, fbox, frC, rowS, sU, sN, box, slF, cpF, zeF]
  generalize uL z32 = z at *
  subst hu
  simp -implicitDefEqProofs (maxSteps := 1000000) (disch := first | omega | rfl) [m11b0, H, KF, KS, getS, getO, gS, zipN, dropW, takeW, wds, stvs, sea, seaL, refs, refsL, refsEls, refsO, isPureEls, isPures, isPure, noExt, noExts, noExtEls, cellsL, ren, renL, renEls, keepO, keepS, keysO, refsS, refsOB, headC, setS, boxO, row, putW, putB, putB1, eNl, newOs, frz, renO, noExtO, zps, zp, two32, w64, -getElem?_pos, k_cnt, k_cnt0]
set_option maxHeartbeats 4000000 in
theorem s11_0_1 (Φ : Sem') (N : Nat) (g : SL → OB → Option R) (b : List (List PV)) (v0 v1 : Int) (H : Φ 23 [.l false b, .i .i64 4, .i .i64 8] [] = some (.tup [.i .u64 v1, .i .i64 12], [])) :
    m11b0 Φ N [] g (sl11 b false 4 2 1) (ob11 0 ⟨0, v0, 0, 0, 0, 0, 0, 0, z32⟩) = g (sl11 b false 12 2 2) (ob11 0 ⟨0, v0, 0, v1, 0, 0, 0, 0, z32⟩) := by
  simp only [sl11, ob11, fbox, frC, rowS, sU, sN, box, slF, cpF, zeF]
  generalize uL z32 = z at *
  simp -implicitDefEqProofs (maxSteps := 1000000) (disch := first | omega | rfl) [m11b0, H, KF, KS, getS, getO, gS, zipN, dropW, takeW, wds, stvs, sea, seaL, refs, refsL, refsEls, refsO, isPureEls, isPures, isPure, noExt, noExts, noExtEls, cellsL, ren, renL, renEls, keepO, keepS, keysO, refsS, refsOB, headC, setS, boxO, row, putW, putB, putB1, eNl, newOs, frz, renO, noExtO, zps, zp, two32, w64, -getElem?_pos, k_cnt, k_cnt0]
set_option maxHeartbeats 4000000 in
theorem x11_0_1 (Φ : Sem') (N : Nat) (g : SL → OB → Option R) (b : List (List PV)) (v0 : Int) (H : Φ 23 [.l false b, .i .i64 4, .i .i64 8] [] = some (.tup [.i .u64 0, .i .i64 (-1)], [])) :
    m11b0 Φ N [] g (sl11 b false 4 2 1) (ob11 0 ⟨0, v0, 0, 0, 0, 0, 0, 0, z32⟩) = some (.tup [.agg (frC zeF), .i .i64 3], []) := by
  have hu := uz32
  simp only [sl11, ob11, fbox, frC, rowS, sU, sN, box, slF, cpF, zeF]
  generalize uL z32 = z at *
  subst hu
  simp -implicitDefEqProofs (maxSteps := 1000000) (disch := first | omega | rfl) [m11b0, H, KF, KS, getS, getO, gS, zipN, dropW, takeW, wds, stvs, sea, seaL, refs, refsL, refsEls, refsO, isPureEls, isPures, isPure, noExt, noExts, noExtEls, cellsL, ren, renL, renEls, keepO, keepS, keysO, refsS, refsOB, headC, setS, boxO, row, putW, putB, putB1, eNl, newOs, frz, renO, noExtO, zps, zp, two32, w64, -getElem?_pos, k_cnt, k_cnt0]
set_option maxHeartbeats 4000000 in
theorem s11_1_0 (Φ : Sem') (N : Nat) (g : SL → OB → Option R) (b : List (List PV)) (v0 : Int) (H : Φ 23 [.l false b, .i .i64 3, .i .i64 8] [] = some (.tup [.i .u64 v0, .i .i64 11], [])) :
    m11b0 Φ N [] g (sl11 b false 3 2 0) (ob11 1 ⟨1, 0, 0, 0, 0, 0, 0, 0, z32⟩) = g (sl11 b false 11 2 1) (ob11 1 ⟨1, 0, v0, 0, 0, 0, 0, 0, z32⟩) := by
  simp only [sl11, ob11, fbox, frC, rowS, sU, sN, box, slF, cpF, zeF]
  generalize uL z32 = z at *
  simp -implicitDefEqProofs (maxSteps := 1000000) (disch := first | omega | rfl) [m11b0, H, KF, KS, getS, getO, gS, zipN, dropW, takeW, wds, stvs, sea, seaL, refs, refsL, refsEls, refsO, isPureEls, isPures, isPure, noExt, noExts, noExtEls, cellsL, ren, renL, renEls, keepO, keepS, keysO, refsS, refsOB, headC, setS, boxO, row, putW, putB, putB1, eNl, newOs, frz, renO, noExtO, zps, zp, two32, w64, -getElem?_pos, k_cnt, k_cnt0]
set_option maxHeartbeats 4000000 in
theorem x11_1_0 (Φ : Sem') (N : Nat) (g : SL → OB → Option R) (b : List (List PV)) (H : Φ 23 [.l false b, .i .i64 3, .i .i64 8] [] = some (.tup [.i .u64 0, .i .i64 (-1)], [])) :
    m11b0 Φ N [] g (sl11 b false 3 2 0) (ob11 1 ⟨1, 0, 0, 0, 0, 0, 0, 0, z32⟩) = some (.tup [.agg (frC zeF), .i .i64 3], []) := by
  have hu := uz32
  simp only [sl11, ob11, fbox, frC, rowS, sU, sN, box, slF, cpF, zeF]
  generalize uL z32 = z at *
  subst hu
  simp -implicitDefEqProofs (maxSteps := 1000000) (disch := first | omega | rfl) [m11b0, H, KF, KS, getS, getO, gS, zipN, dropW, takeW, wds, stvs, sea, seaL, refs, refsL, refsEls, refsO, isPureEls, isPures, isPure, noExt, noExts, noExtEls, cellsL, ren, renL, renEls, keepO, keepS, keysO, refsS, refsOB, headC, setS, boxO, row, putW, putB, putB1, eNl, newOs, frz, renO, noExtO, zps, zp, two32, w64, -getElem?_pos, k_cnt, k_cnt0]
set_option maxHeartbeats 4000000 in
theorem s11_1_1 (Φ : Sem') (N : Nat) (g : SL → OB → Option R) (b : List (List PV)) (v0 v1 : Int) (hw : IntKind.i64.wrap v1 = v1) (H : Φ 23 [.l false b, .i .i64 11, .i .i64 4] [] = some (.tup [.i .u64 v1, .i .i64 15], [])) :
    m11b0 Φ N [] g (sl11 b false 11 2 1) (ob11 1 ⟨1, 0, v0, 0, 0, 0, 0, 0, z32⟩) = g (sl11 b false 15 2 2) (ob11 1 ⟨1, 0, v0, 0, v1, 0, 0, 0, z32⟩) := by
  simp only [sl11, ob11, fbox, frC, rowS, sU, sN, box, slF, cpF, zeF]
  generalize uL z32 = z at *
  simp -implicitDefEqProofs (maxSteps := 1000000) (disch := first | omega | rfl) [m11b0, H, hw, KF, KS, getS, getO, gS, zipN, dropW, takeW, wds, stvs, sea, seaL, refs, refsL, refsEls, refsO, isPureEls, isPures, isPure, noExt, noExts, noExtEls, cellsL, ren, renL, renEls, keepO, keepS, keysO, refsS, refsOB, headC, setS, boxO, row, putW, putB, putB1, eNl, newOs, frz, renO, noExtO, zps, zp, two32, w64, -getElem?_pos, k_cnt, k_cnt0]
set_option maxHeartbeats 4000000 in
theorem x11_1_1 (Φ : Sem') (N : Nat) (g : SL → OB → Option R) (b : List (List PV)) (v0 : Int) (H : Φ 23 [.l false b, .i .i64 11, .i .i64 4] [] = some (.tup [.i .u64 0, .i .i64 (-1)], [])) :
    m11b0 Φ N [] g (sl11 b false 11 2 1) (ob11 1 ⟨1, 0, v0, 0, 0, 0, 0, 0, z32⟩) = some (.tup [.agg (frC zeF), .i .i64 3], []) := by
  have hu := uz32
  simp only [sl11, ob11, fbox, frC, rowS, sU, sN, box, slF, cpF, zeF]
  generalize uL z32 = z at *
  subst hu
  simp -implicitDefEqProofs (maxSteps := 1000000) (disch := first | omega | rfl) [m11b0, H, KF, KS, getS, getO, gS, zipN, dropW, takeW, wds, stvs, sea, seaL, refs, refsL, refsEls, refsO, isPureEls, isPures, isPure, noExt, noExts, noExtEls, cellsL, ren, renL, renEls, keepO, keepS, keysO, refsS, refsOB, headC, setS, boxO, row, putW, putB, putB1, eNl, newOs, frz, renO, noExtO, zps, zp, two32, w64, -getElem?_pos, k_cnt, k_cnt0]
set_option maxHeartbeats 4000000 in
theorem s11_2_0 (Φ : Sem') (N : Nat) (g : SL → OB → Option R) (b : List (List PV)) (v0 : Int) (H : Φ 23 [.l false b, .i .i64 3, .i .i64 8] [] = some (.tup [.i .u64 v0, .i .i64 11], [])) :
    m11b0 Φ N [] g (sl11 b true 3 1 0) (ob11 2 ⟨2, 0, 0, 0, 0, 0, 0, 0, z32⟩) = g (sl11 b true 11 1 1) (ob11 2 ⟨2, 0, v0, 0, 0, 0, 0, 0, z32⟩) := by
  simp only [sl11, ob11, fbox, frC, rowS, sU, sN, box, slF, cpF, zeF]
  generalize uL z32 = z at *
  simp -implicitDefEqProofs (maxSteps := 1000000) (disch := first | omega | rfl) [m11b0, H, KF, KS, getS, getO, gS, zipN, dropW, takeW, wds, stvs, sea, seaL, refs, refsL, refsEls, refsO, isPureEls, isPures, isPure, noExt, noExts, noExtEls, cellsL, ren, renL, renEls, keepO, keepS, keysO, refsS, refsOB, headC, setS, boxO, row, putW, putB, putB1, eNl, newOs, frz, renO, noExtO, zps, zp, two32, w64, -getElem?_pos, k_cnt, k_cnt0]
set_option maxHeartbeats 4000000 in
theorem x11_2_0 (Φ : Sem') (N : Nat) (g : SL → OB → Option R) (b : List (List PV)) (H : Φ 23 [.l false b, .i .i64 3, .i .i64 8] [] = some (.tup [.i .u64 0, .i .i64 (-1)], [])) :
    m11b0 Φ N [] g (sl11 b true 3 1 0) (ob11 2 ⟨2, 0, 0, 0, 0, 0, 0, 0, z32⟩) = some (.tup [.agg (frC zeF), .i .i64 3], []) := by
  have hu := uz32
  simp only [sl11, ob11, fbox, frC, rowS, sU, sN, box, slF, cpF, zeF]
  generalize uL z32 = z at *
  subst hu
  simp -implicitDefEqProofs (maxSteps := 1000000) (disch := first | omega | rfl) [m11b0, H, KF, KS, getS, getO, gS, zipN, dropW, takeW, wds, stvs, sea, seaL, refs, refsL, refsEls, refsO, isPureEls, isPures, isPure, noExt, noExts, noExtEls, cellsL, ren, renL, renEls, keepO, keepS, keysO, refsS, refsOB, headC, setS, boxO, row, putW, putB, putB1, eNl, newOs, frz, renO, noExtO, zps, zp, two32, w64, -getElem?_pos, k_cnt, k_cnt0]
set_option maxHeartbeats 4000000 in
theorem s11_3_0 (Φ : Sem') (N : Nat) (g : SL → OB → Option R) (b : List (List PV)) (v0 : Int) (H : Φ 23 [.l false b, .i .i64 3, .i .i64 8] [] = some (.tup [.i .u64 v0, .i .i64 11], [])) :
    m11b0 Φ N [] g (sl11 b true 3 1 0) (ob11 3 ⟨3, 0, 0, 0, 0, 0, 0, 0, z32⟩) = g (sl11 b true 11 1 1) (ob11 3 ⟨3, 0, v0, 0, 0, 0, 0, 0, z32⟩) := by
  simp only [sl11, ob11, fbox, frC, rowS, sU, sN, box, slF, cpF, zeF]
  generalize uL z32 = z at *
  simp -implicitDefEqProofs (maxSteps := 1000000) (disch := first | omega | rfl) [m11b0, H, KF, KS, getS, getO, gS, zipN, dropW, takeW, wds, stvs, sea, seaL, refs, refsL, refsEls, refsO, isPureEls, isPures, isPure, noExt, noExts, noExtEls, cellsL, ren, renL, renEls, keepO, keepS, keysO, refsS, refsOB, headC, setS, boxO, row, putW, putB, putB1, eNl, newOs, frz, renO, noExtO, zps, zp, two32, w64, -getElem?_pos, k_cnt, k_cnt0]
set_option maxHeartbeats 4000000 in
theorem x11_3_0 (Φ : Sem') (N : Nat) (g : SL → OB → Option R) (b : List (List PV)) (H : Φ 23 [.l false b, .i .i64 3, .i .i64 8] [] = some (.tup [.i .u64 0, .i .i64 (-1)], [])) :
    m11b0 Φ N [] g (sl11 b true 3 1 0) (ob11 3 ⟨3, 0, 0, 0, 0, 0, 0, 0, z32⟩) = some (.tup [.agg (frC zeF), .i .i64 3], []) := by
  have hu := uz32
  simp only [sl11, ob11, fbox, frC, rowS, sU, sN, box, slF, cpF, zeF]
  generalize uL z32 = z at *
  subst hu
  simp -implicitDefEqProofs (maxSteps := 1000000) (disch := first | omega | rfl) [m11b0, H, KF, KS, getS, getO, gS, zipN, dropW, takeW, wds, stvs, sea, seaL, refs, refsL, refsEls, refsO, isPureEls, isPures, isPure, noExt, noExts, noExtEls, cellsL, ren, renL, renEls, keepO, keepS, keysO, refsS, refsOB, headC, setS, boxO, row, putW, putB, putB1, eNl, newOs, frz, renO, noExtO, zps, zp, two32, w64, -getElem?_pos, k_cnt, k_cnt0]
set_option maxHeartbeats 4000000 in
theorem s11_4_0 (Φ : Sem') (N : Nat) (g : SL → OB → Option R) (b : List (List PV)) (v0 : Int) (H : Φ 23 [.l false b, .i .i64 3, .i .i64 8] [] = some (.tup [.i .u64 v0, .i .i64 11], [])) :
    m11b0 Φ N [] g (sl11 b true 3 4 0) (ob11 4 ⟨4, 0, 0, 0, 0, 0, 0, 0, z32⟩) = g (sl11 b true 11 4 1) (ob11 4 ⟨4, 0, v0, 0, 0, 0, 0, 0, z32⟩) := by
  simp only [sl11, ob11, fbox, frC, rowS, sU, sN, box, slF, cpF, zeF]
  generalize uL z32 = z at *
  simp -implicitDefEqProofs (maxSteps := 1000000) (disch := first | omega | rfl) [m11b0, H, KF, KS, getS, getO, gS, zipN, dropW, takeW, wds, stvs, sea, seaL, refs, refsL, refsEls, refsO, isPureEls, isPures, isPure, noExt, noExts, noExtEls, cellsL, ren, renL, renEls, keepO, keepS, keysO, refsS, refsOB, headC, setS, boxO, row, putW, putB, putB1, eNl, newOs, frz, renO, noExtO, zps, zp, two32, w64, -getElem?_pos, k_cnt, k_cnt0]
set_option maxHeartbeats 4000000 in
theorem x11_4_0 (Φ : Sem') (N : Nat) (g : SL → OB → Option R) (b : List (List PV)) (H : Φ 23 [.l false b, .i .i64 3, .i .i64 8] [] = some (.tup [.i .u64 0, .i .i64 (-1)], [])) :
    m11b0 Φ N [] g (sl11 b true 3 4 0) (ob11 4 ⟨4, 0, 0, 0, 0, 0, 0, 0, z32⟩) = some (.tup [.agg (frC zeF), .i .i64 3], []) := by
  have hu := uz32
  simp only [sl11, ob11, fbox, frC, rowS, sU, sN, box, slF, cpF, zeF]
  generalize uL z32 = z at *
  subst hu
  simp -implicitDefEqProofs (maxSteps := 1000000) (disch := first | omega | rfl) [m11b0, H, KF, KS, getS, getO, gS, zipN, dropW, takeW, wds, stvs, sea, seaL, refs, refsL, refsEls, refsO, isPureEls, isPures, isPure, noExt, noExts, noExtEls, cellsL, ren, renL, renEls, keepO, keepS, keysO, refsS, refsOB, headC, setS, boxO, row, putW, putB, putB1, eNl, newOs, frz, renO, noExtO, zps, zp, two32, w64, -getElem?_pos, k_cnt, k_cnt0]
set_option maxHeartbeats 4000000 in
theorem s11_4_1 (Φ : Sem') (N : Nat) (g : SL → OB → Option R) (b : List (List PV)) (v0 v1 : Int) (H : Φ 23 [.l false b, .i .i64 11, .i .i64 8] [] = some (.tup [.i .u64 v1, .i .i64 19], [])) :
    m11b0 Φ N [] g (sl11 b true 11 4 1) (ob11 4 ⟨4, 0, v0, 0, 0, 0, 0, 0, z32⟩) = g (sl11 b true 19 4 2) (ob11 4 ⟨4, 0, v0, 0, 0, v1, 0, 0, z32⟩) := by
  simp only [sl11, ob11, fbox, frC, rowS, sU, sN, box, slF, cpF, zeF]
  generalize uL z32 = z at *
  simp -implicitDefEqProofs (maxSteps := 1000000) (disch := first | omega | rfl) [m11b0, H, KF, KS, getS, getO, gS, zipN, dropW, takeW, wds, stvs, sea, seaL, refs, refsL, refsEls, refsO, isPureEls, isPures, isPure, noExt, noExts, noExtEls, cellsL, ren, renL, renEls, keepO, keepS, keysO, refsS, refsOB, headC, setS, boxO, row, putW, putB, putB1, eNl, newOs, frz, renO, noExtO, zps, zp, two32, w64, -getElem?_pos, k_cnt, k_cnt0]
set_option maxHeartbeats 4000000 in
theorem x11_4_1 (Φ : Sem') (N : Nat) (g : SL → OB → Option R) (b : List (List PV)) (v0 : Int) (H : Φ 23 [.l false b, .i .i64 11, .i .i64 8] [] = some (.tup [.i .u64 0, .i .i64 (-1)], [])) :
    m11b0 Φ N [] g (sl11 b true 11 4 1) (ob11 4 ⟨4, 0, v0, 0, 0, 0, 0, 0, z32⟩) = some (.tup [.agg (frC zeF), .i .i64 3], []) := by
  have hu := uz32
  simp only [sl11, ob11, fbox, frC, rowS, sU, sN, box, slF, cpF, zeF]
  generalize uL z32 = z at *
  subst hu
  simp -implicitDefEqProofs (maxSteps := 1000000) (disch := first | omega | rfl) [m11b0, H, KF, KS, getS, getO, gS, zipN, dropW, takeW, wds, stvs, sea, seaL, refs, refsL, refsEls, refsO, isPureEls, isPures, isPure, noExt, noExts, noExtEls, cellsL, ren, renL, renEls, keepO, keepS, keysO, refsS, refsOB, headC, setS, boxO, row, putW, putB, putB1, eNl, newOs, frz, renO, noExtO, zps, zp, two32, w64, -getElem?_pos, k_cnt, k_cnt0]
set_option maxHeartbeats 4000000 in
theorem s11_4_2 (Φ : Sem') (N : Nat) (g : SL → OB → Option R) (b : List (List PV)) (v0 v1 v2 : Int) (hw : IntKind.i64.wrap v2 = v2) (H : Φ 23 [.l false b, .i .i64 19, .i .i64 1] [] = some (.tup [.i .u64 v2, .i .i64 20], [])) :
    m11b0 Φ N [] g (sl11 b true 19 4 2) (ob11 4 ⟨4, 0, v0, 0, 0, v1, 0, 0, z32⟩) = g (sl11 b true 20 4 3) (ob11 4 ⟨4, 0, v0, 0, 0, v1, v2, 0, z32⟩) := by
  simp only [sl11, ob11, fbox, frC, rowS, sU, sN, box, slF, cpF, zeF]
  generalize uL z32 = z at *
  simp -implicitDefEqProofs (maxSteps := 1000000) (disch := first | omega | rfl) [m11b0, H, hw, KF, KS, getS, getO, gS, zipN, dropW, takeW, wds, stvs, sea, seaL, refs, refsL, refsEls, refsO, isPureEls, isPures, isPure, noExt, noExts, noExtEls, cellsL, ren, renL, renEls, keepO, keepS, keysO, refsS, refsOB, headC, setS, boxO, row, putW, putB, putB1, eNl, newOs, frz, renO, noExtO, zps, zp, two32, w64, -getElem?_pos, k_cnt, k_cnt0]
set_option maxHeartbeats 4000000 in
theorem x11_4_2 (Φ : Sem') (N : Nat) (g : SL → OB → Option R) (b : List (List PV)) (v0 v1 : Int) (H : Φ 23 [.l false b, .i .i64 19, .i .i64 1] [] = some (.tup [.i .u64 0, .i .i64 (-1)], [])) :
    m11b0 Φ N [] g (sl11 b true 19 4 2) (ob11 4 ⟨4, 0, v0, 0, 0, v1, 0, 0, z32⟩) = some (.tup [.agg (frC zeF), .i .i64 3], []) := by
  have hu := uz32
  simp only [sl11, ob11, fbox, frC, rowS, sU, sN, box, slF, cpF, zeF]
  generalize uL z32 = z at *
  subst hu
  simp -implicitDefEqProofs (maxSteps := 1000000) (disch := first | omega | rfl) [m11b0, H, KF, KS, getS, getO, gS, zipN, dropW, takeW, wds, stvs, sea, seaL, refs, refsL, refsEls, refsO, isPureEls, isPures, isPure, noExt, noExts, noExtEls, cellsL, ren, renL, renEls, keepO, keepS, keysO, refsS, refsOB, headC, setS, boxO, row, putW, putB, putB1, eNl, newOs, frz, renO, noExtO, zps, zp, two32, w64, -getElem?_pos, k_cnt, k_cnt0]
set_option maxHeartbeats 4000000 in
theorem s11_4_3 (Φ : Sem') (N : Nat) (g : SL → OB → Option R) (b : List (List PV)) (v0 v1 v2 v3 : Int) (hw : IntKind.i64.wrap v3 = v3) (H : Φ 23 [.l false b, .i .i64 20, .i .i64 2] [] = some (.tup [.i .u64 v3, .i .i64 22], [])) :
    m11b0 Φ N [] g (sl11 b true 20 4 3) (ob11 4 ⟨4, 0, v0, 0, 0, v1, v2, 0, z32⟩) = g (sl11 b true 22 4 4) (ob11 4 ⟨4, 0, v0, 0, 0, v1, v2, v3, z32⟩) := by
  simp only [sl11, ob11, fbox, frC, rowS, sU, sN, box, slF, cpF, zeF]
  generalize uL z32 = z at *
  simp -implicitDefEqProofs (maxSteps := 1000000) (disch := first | omega | rfl) [m11b0, H, hw, KF, KS, getS, getO, gS, zipN, dropW, takeW, wds, stvs, sea, seaL, refs, refsL, refsEls, refsO, isPureEls, isPures, isPure, noExt, noExts, noExtEls, cellsL, ren, renL, renEls, keepO, keepS, keysO, refsS, refsOB, headC, setS, boxO, row, putW, putB, putB1, eNl, newOs, frz, renO, noExtO, zps, zp, two32, w64, -getElem?_pos, k_cnt, k_cnt0]
set_option maxHeartbeats 4000000 in
theorem x11_4_3 (Φ : Sem') (N : Nat) (g : SL → OB → Option R) (b : List (List PV)) (v0 v1 v2 : Int) (H : Φ 23 [.l false b, .i .i64 20, .i .i64 2] [] = some (.tup [.i .u64 0, .i .i64 (-1)], [])) :
    m11b0 Φ N [] g (sl11 b true 20 4 3) (ob11 4 ⟨4, 0, v0, 0, 0, v1, v2, 0, z32⟩) = some (.tup [.agg (frC zeF), .i .i64 3], []) := by
  have hu := uz32
  simp only [sl11, ob11, fbox, frC, rowS, sU, sN, box, slF, cpF, zeF]
  generalize uL z32 = z at *
  subst hu
  simp -implicitDefEqProofs (maxSteps := 1000000) (disch := first | omega | rfl) [m11b0, H, KF, KS, getS, getO, gS, zipN, dropW, takeW, wds, stvs, sea, seaL, refs, refsL, refsEls, refsO, isPureEls, isPures, isPure, noExt, noExts, noExtEls, cellsL, ren, renL, renEls, keepO, keepS, keysO, refsS, refsOB, headC, setS, boxO, row, putW, putB, putB1, eNl, newOs, frz, renO, noExtO, zps, zp, two32, w64, -getElem?_pos, k_cnt, k_cnt0]
set_option maxHeartbeats 4000000 in
theorem s11_5_0 (Φ : Sem') (N : Nat) (g : SL → OB → Option R) (b : List (List PV)) (v0 : Int) (H : Φ 23 [.l false b, .i .i64 3, .i .i64 8] [] = some (.tup [.i .u64 v0, .i .i64 11], [])) :
    m11b0 Φ N [] g (sl11 b true 3 4 0) (ob11 5 ⟨5, 0, 0, 0, 0, 0, 0, 0, z32⟩) = g (sl11 b true 11 4 1) (ob11 5 ⟨5, 0, v0, 0, 0, 0, 0, 0, z32⟩) := by
  simp only [sl11, ob11, fbox, frC, rowS, sU, sN, box, slF, cpF, zeF]
  generalize uL z32 = z at *
  simp -implicitDefEqProofs (maxSteps := 1000000) (disch := first | omega | rfl) [m11b0, H, KF, KS, getS, getO, gS, zipN, dropW, takeW, wds, stvs, sea, seaL, refs, refsL, refsEls, refsO, isPureEls, isPures, isPure, noExt, noExts, noExtEls, cellsL, ren, renL, renEls, keepO, keepS, keysO, refsS, refsOB, headC, setS, boxO, row, putW, putB, putB1, eNl, newOs, frz, renO, noExtO, zps, zp, two32, w64, -getElem?_pos, k_cnt, k_cnt0]
set_option maxHeartbeats 4000000 in
theorem x11_5_0 (Φ : Sem') (N : Nat) (g : SL → OB → Option R) (b : List (List PV)) (H : Φ 23 [.l false b, .i .i64 3, .i .i64 8] [] = some (.tup [.i .u64 0, .i .i64 (-1)], [])) :
    m11b0 Φ N [] g (sl11 b true 3 4 0) (ob11 5 ⟨5, 0, 0, 0, 0, 0, 0, 0, z32⟩) = some (.tup [.agg (frC zeF), .i .i64 3], []) := by
  have hu := uz32
  simp only [sl11, ob11, fbox, frC, rowS, sU, sN, box, slF, cpF, zeF]
  generalize uL z32 = z at *
  subst hu
  simp -implicitDefEqProofs (maxSteps := 1000000) (disch := first | omega | rfl) [m11b0, H, KF, KS, getS, getO, gS, zipN, dropW, takeW, wds, stvs, sea, seaL, refs, refsL, refsEls, refsO, isPureEls, isPures, isPure, noExt, noExts, noExtEls, cellsL, ren, renL, renEls, keepO, keepS, keysO, refsS, refsOB, headC, setS, boxO, row, putW, putB, putB1, eNl, newOs, frz, renO, noExtO, zps, zp, two32, w64, -getElem?_pos, k_cnt, k_cnt0]
set_option maxHeartbeats 4000000 in
theorem s11_5_1 (Φ : Sem') (N : Nat) (g : SL → OB → Option R) (b : List (List PV)) (v0 v1 : Int) (H : Φ 23 [.l false b, .i .i64 11, .i .i64 8] [] = some (.tup [.i .u64 v1, .i .i64 19], [])) :
    m11b0 Φ N [] g (sl11 b true 11 4 1) (ob11 5 ⟨5, 0, v0, 0, 0, 0, 0, 0, z32⟩) = g (sl11 b true 19 4 2) (ob11 5 ⟨5, 0, v0, 0, 0, v1, 0, 0, z32⟩) := by
  simp only [sl11, ob11, fbox, frC, rowS, sU, sN, box, slF, cpF, zeF]
  generalize uL z32 = z at *
  simp -implicitDefEqProofs (maxSteps := 1000000) (disch := first | omega | rfl) [m11b0, H, KF, KS, getS, getO, gS, zipN, dropW, takeW, wds, stvs, sea, seaL, refs, refsL, refsEls, refsO, isPureEls, isPures, isPure, noExt, noExts, noExtEls, cellsL, ren, renL, renEls, keepO, keepS, keysO, refsS, refsOB, headC, setS, boxO, row, putW, putB, putB1, eNl, newOs, frz, renO, noExtO, zps, zp, two32, w64, -getElem?_pos, k_cnt, k_cnt0]
set_option maxHeartbeats 4000000 in
theorem x11_5_1 (Φ : Sem') (N : Nat) (g : SL → OB → Option R) (b : List (List PV)) (v0 : Int) (H : Φ 23 [.l false b, .i .i64 11, .i .i64 8] [] = some (.tup [.i .u64 0, .i .i64 (-1)], [])) :
    m11b0 Φ N [] g (sl11 b true 11 4 1) (ob11 5 ⟨5, 0, v0, 0, 0, 0, 0, 0, z32⟩) = some (.tup [.agg (frC zeF), .i .i64 3], []) := by
  have hu := uz32
  simp only [sl11, ob11, fbox, frC, rowS, sU, sN, box, slF, cpF, zeF]
  generalize uL z32 = z at *
  subst hu
  simp -implicitDefEqProofs (maxSteps := 1000000) (disch := first | omega | rfl) [m11b0, H, KF, KS, getS, getO, gS, zipN, dropW, takeW, wds, stvs, sea, seaL, refs, refsL, refsEls, refsO, isPureEls, isPures, isPure, noExt, noExts, noExtEls, cellsL, ren, renL, renEls, keepO, keepS, keysO, refsS, refsOB, headC, setS, boxO, row, putW, putB, putB1, eNl, newOs, frz, renO, noExtO, zps, zp, two32, w64, -getElem?_pos, k_cnt, k_cnt0]
set_option maxHeartbeats 4000000 in
theorem s11_5_2 (Φ : Sem') (N : Nat) (g : SL → OB → Option R) (b : List (List PV)) (v0 v1 v2 : Int) (hw : IntKind.i64.wrap v2 = v2) (H : Φ 23 [.l false b, .i .i64 19, .i .i64 1] [] = some (.tup [.i .u64 v2, .i .i64 20], [])) :
    m11b0 Φ N [] g (sl11 b true 19 4 2) (ob11 5 ⟨5, 0, v0, 0, 0, v1, 0, 0, z32⟩) = g (sl11 b true 20 4 3) (ob11 5 ⟨5, 0, v0, 0, 0, v1, v2, 0, z32⟩) := by
  simp only [sl11, ob11, fbox, frC, rowS, sU, sN, box, slF, cpF, zeF]
  generalize uL z32 = z at *
  simp -implicitDefEqProofs (maxSteps := 1000000) (disch := first | omega | rfl) [m11b0, H, hw, KF, KS, getS, getO, gS, zipN, dropW, takeW, wds, stvs, sea, seaL, refs, refsL, refsEls, refsO, isPureEls, isPures, isPure, noExt, noExts, noExtEls, cellsL, ren, renL, renEls, keepO, keepS, keysO, refsS, refsOB, headC, setS, boxO, row, putW, putB, putB1, eNl, newOs, frz, renO, noExtO, zps, zp, two32, w64, -getElem?_pos, k_cnt, k_cnt0]
set_option maxHeartbeats 4000000 in
theorem x11_5_2 (Φ : Sem') (N : Nat) (g : SL → OB → Option R) (b : List (List PV)) (v0 v1 : Int) (H : Φ 23 [.l false b, .i .i64 19, .i .i64 1] [] = some (.tup [.i .u64 0, .i .i64 (-1)], [])) :
    m11b0 Φ N [] g (sl11 b true 19 4 2) (ob11 5 ⟨5, 0, v0, 0, 0, v1, 0, 0, z32⟩) = some (.tup [.agg (frC zeF), .i .i64 3], []) := by
  have hu := uz32
  simp only [sl11, ob11, fbox, frC, rowS, sU, sN, box, slF, cpF, zeF]
  generalize uL z32 = z at *
  subst hu
  simp -implicitDefEqProofs (maxSteps := 1000000) (disch := first | omega | rfl) [m11b0, H, KF, KS, getS, getO, gS, zipN, dropW, takeW, wds, stvs, sea, seaL, refs, refsL, refsEls, refsO, isPureEls, isPures, isPure, noExt, noExts, noExtEls, cellsL, ren, renL, renEls, keepO, keepS, keysO, refsS, refsOB, headC, setS, boxO, row, putW, putB, putB1, eNl, newOs, frz, renO, noExtO, zps, zp, two32, w64, -getElem?_pos, k_cnt, k_cnt0]
set_option maxHeartbeats 4000000 in
theorem s11_5_3 (Φ : Sem') (N : Nat) (g : SL → OB → Option R) (b : List (List PV)) (v0 v1 v2 v3 : Int) (hw : IntKind.i64.wrap v3 = v3) (H : Φ 23 [.l false b, .i .i64 20, .i .i64 2] [] = some (.tup [.i .u64 v3, .i .i64 22], [])) :
    m11b0 Φ N [] g (sl11 b true 20 4 3) (ob11 5 ⟨5, 0, v0, 0, 0, v1, v2, 0, z32⟩) = g (sl11 b true 22 4 4) (ob11 5 ⟨5, 0, v0, 0, 0, v1, v2, v3, z32⟩) := by
  simp only [sl11, ob11, fbox, frC, rowS, sU, sN, box, slF, cpF, zeF]
  generalize uL z32 = z at *
  simp -implicitDefEqProofs (maxSteps := 1000000) (disch := first | omega | rfl) [m11b0, H, hw, KF, KS, getS, getO, gS, zipN, dropW, takeW, wds, stvs, sea, seaL, refs, refsL, refsEls, refsO, isPureEls, isPures, isPure, noExt, noExts, noExtEls, cellsL, ren, renL, renEls, keepO, keepS, keysO, refsS, refsOB, headC, setS, boxO, row, putW, putB, putB1, eNl, newOs, frz, renO, noExtO, zps, zp, two32, w64, -getElem?_pos, k_cnt, k_cnt0]
set_option maxHeartbeats 4000000 in
theorem x11_5_3 (Φ : Sem') (N : Nat) (g : SL → OB → Option R) (b : List (List PV)) (v0 v1 v2 : Int) (H : Φ 23 [.l false b, .i .i64 20, .i .i64 2] [] = some (.tup [.i .u64 0, .i .i64 (-1)], [])) :
    m11b0 Φ N [] g (sl11 b true 20 4 3) (ob11 5 ⟨5, 0, v0, 0, 0, v1, v2, 0, z32⟩) = some (.tup [.agg (frC zeF), .i .i64 3], []) := by
  have hu := uz32
  simp only [sl11, ob11, fbox, frC, rowS, sU, sN, box, slF, cpF, zeF]
  generalize uL z32 = z at *
  subst hu
  simp -implicitDefEqProofs (maxSteps := 1000000) (disch := first | omega | rfl) [m11b0, H, KF, KS, getS, getO, gS, zipN, dropW, takeW, wds, stvs, sea, seaL, refs, refsL, refsEls, refsO, isPureEls, isPures, isPure, noExt, noExts, noExtEls, cellsL, ren, renL, renEls, keepO, keepS, keysO, refsS, refsOB, headC, setS, boxO, row, putW, putB, putB1, eNl, newOs, frz, renO, noExtO, zps, zp, two32, w64, -getElem?_pos, k_cnt, k_cnt0]
set_option maxHeartbeats 4000000 in
theorem s11_6_0 (Φ : Sem') (N : Nat) (g : SL → OB → Option R) (b : List (List PV)) (v0 : Int) (hw : IntKind.i64.wrap v0 = v0) (H : Φ 23 [.l false b, .i .i64 3, .i .i64 1] [] = some (.tup [.i .u64 v0, .i .i64 4], [])) :
    m11b0 Φ N [] g (sl11 b false 3 1 0) (ob11 6 ⟨6, 0, 0, 0, 0, 0, 0, 0, z32⟩) = g (sl11 b false 4 1 1) (ob11 6 ⟨6, 0, 0, 0, 0, 0, v0, 0, z32⟩) := by
  simp only [sl11, ob11, fbox, frC, rowS, sU, sN, box, slF, cpF, zeF]
  generalize uL z32 = z at *
  simp -implicitDefEqProofs (maxSteps := 1000000) (disch := first | omega | rfl) [m11b0, H, hw, KF, KS, getS, getO, gS, zipN, dropW, takeW, wds, stvs, sea, seaL, refs, refsL, refsEls, refsO, isPureEls, isPures, isPure, noExt, noExts, noExtEls, cellsL, ren, renL, renEls, keepO, keepS, keysO, refsS, refsOB, headC, setS, boxO, row, putW, putB, putB1, eNl, newOs, frz, renO, noExtO, zps, zp, two32, w64, -getElem?_pos, k_cnt, k_cnt0]
set_option maxHeartbeats 4000000 in
theorem x11_6_0 (Φ : Sem') (N : Nat) (g : SL → OB → Option R) (b : List (List PV)) (H : Φ 23 [.l false b, .i .i64 3, .i .i64 1] [] = some (.tup [.i .u64 0, .i .i64 (-1)], [])) :
    m11b0 Φ N [] g (sl11 b false 3 1 0) (ob11 6 ⟨6, 0, 0, 0, 0, 0, 0, 0, z32⟩) = some (.tup [.agg (frC zeF), .i .i64 3], []) := by
  have hu := uz32
  simp only [sl11, ob11, fbox, frC, rowS, sU, sN, box, slF, cpF, zeF]
  generalize uL z32 = z at *
  subst hu
  simp -implicitDefEqProofs (maxSteps := 1000000) (disch := first | omega | rfl) [m11b0, H, KF, KS, getS, getO, gS, zipN, dropW, takeW, wds, stvs, sea, seaL, refs, refsL, refsEls, refsO, isPureEls, isPures, isPure, noExt, noExts, noExtEls, cellsL, ren, renL, renEls, keepO, keepS, keysO, refsS, refsOB, headC, setS, boxO, row, putW, putB, putB1, eNl, newOs, frz, renO, noExtO, zps, zp, two32, w64, -getElem?_pos, k_cnt, k_cnt0]
end
section
attribute [local congr] bnd_cg bndO_cg br_cg
theorem scal_by (ys : List Int) : scalEls (byL ys) = true := by
  induction ys with
  | nil => rfl
  | cons x r ih => simpa [byL, scalEls, scal] using ih
theorem flat_take (ys : List Int) (n : Nat) : ((byL ys).take n).flatten = uL (ys.take n) := by
  simp only [byL, uL, ← List.map_take]
  induction ys.take n with
  | nil => rfl
  | cons x r ih => simp only [List.map_cons, List.flatten_cons, ih]; rfl
theorem cpy_tag (ob : OB) (h : Fra) (hz : h.tag = z32) (ys : List Int) (ho : getO ob 104 = some (fbox h)) : cpy ob 1 (.bs 104 8 0 32) (.l false (byL ys)) = some (.i .i64 ((min ys.length 32 : Nat) : Int), [(104, fbox { h with tag := ys.take 32 ++ z32.drop (min ys.length 32) })]) := by
  obtain ⟨a1, a2, a3, a4, a5, a6, a7, a8, a9⟩ := h
  simp only at hz
  subst hz
  have hl := byL_len ys
  have e1 : ys.take (min ys.length 32) = ys.take 32 := by
    rcases Nat.le_total ys.length 32 with h | h
    · rw [Nat.min_eq_left h, List.take_of_length_le (Nat.le_refl _), List.take_of_length_le h]
    · rw [Nat.min_eq_right h]
  have e2 : uL (ys.take 32 ++ z32.drop (min ys.length 32)) = uL (ys.take 32) ++ (uL z32).drop (min ys.length 32) := by simp [uL]
  have hz : (uL z32).length = 32 := by rw [uL_len]; rfl
  have hs := scal_by ys
  have hf := flat_take ys (min ys.length 32)
  rw [e1] at hf
  rw [← hl] at hf e2 ⊢
  simp only [fbox, frC, box, e2] at ho ⊢
  generalize uL (ys.take 32) = t at *
  generalize uL z32 = z at *
  generalize byL ys = b at *
  simp [cpy, cont, contL, cpC, cpX, cpyB, cpyE, cpyD, ho, dropW, takeW, wd, hs, hf, hz]
def ob11x (S : List (Nat × Obj')) (h : Fra) : OB := (80, fbox zeF) :: (104, fbox h) :: S
def sl11x (r : PV) (b : List (List PV)) (t : Bool) (at' : Int) (n : Int) : SL := [(0, .l false b), (2, .p 80 0 0 0 none), (5, .p 104 0 0 0 none), (7, .b t), (8, .i .i64 at'), (42, r), (43, .i .i64 n), (44, .i .i64 n)]
def errR (e : Int) : Option R := some (.tup [.agg (frC zeF), .i .i64 e], [])
def outP (b : Bool) (p : List Int) : Option R := cond b (some (.tup [.sl 0 0 0 p.length, .b true], [row (byL p) 1 true])) (some (.tup [.sl 0 0 0 0, .b false], [row [] 1 true]))
set_option maxHeartbeats 8000000 in
/-- Without a tag. -/
theorem e11u (Φ : Sem') (N : Nat) (g : SL → OB → Option R) (bs p : List Int) (S : List (Nat × Obj')) (r : PV) (h : Fra) (pl : Bool) (n at' : Int) (hS : getO S 736 = none)
    (H1 : Φ 10 [.agg (frC h)] [] = outP pl p) (H2 : Φ 24 [.l false (byL p), .l false (byL bs)] [] = some (.b (decide (p = bs)), [])) :
    m11b0 Φ N [] g (sl11x r (byL bs) false at' n) (ob11x S h) = cond (pl && ((at' == (bs.length : Int)) && decide (p = bs))) (some (.tup [.agg (frC h), .i .i64 0], [])) (errR 3) := by
  have hl := byL_len bs
  have hp := byL_len p
  have hu := uz32
  have lt : ¬ n < n := Int.lt_irrefl n
  unfold outP at H1
  unfold errR
  rw [← hl]
  rw [← hp] at H1
  have tp : List.take (byL p).length (byL p) = byL p := List.take_length
  generalize decide (p = bs) = e at *
  generalize byL p = c at *
  generalize byL bs = b at *
  obtain ⟨a1, a2, a3, a4, a5, a6, a7, a8, a9⟩ := h
  simp only [sl11x, ob11x, fbox, frC, zeF, box, row] at *
  generalize uL a9 = q at *
  generalize uL z32 = z at *
  subst hu
  cases pl
  · simp only [cond_false] at H1
    simp -implicitDefEqProofs (maxSteps := 1000000) (disch := first | omega | rfl) [m11b0, hS, H1, lt, KF, KS, getS, getO, gS, zipN, dropW, takeW, wds, stvs, sea, seaL, refs, refsL, refsEls, refsO, isPureEls, isPures, isPure, noExt, noExts, noExtEls, cellsL, ren, renL, renEls, keepO, keepS, keysO, refsS, refsOB, headC, setS, boxO, row, putW, putB, putB1, eNl, newOs, frz, renO, noExtO, zps, zp, two32, w64, -getElem?_pos, k_cnt, k_cnt0]
  · simp only [cond_true] at H1
    by_cases ha : at' = (b.length : Int)
    · have ha1 : (at' == (b.length : Int)) = true := by simp [ha]
      have ha2 : (at' != (b.length : Int)) = false := by simp [ha]
      cases e <;> simp -implicitDefEqProofs (maxSteps := 1000000) (disch := first | omega | rfl) [m11b0, hS, H1, H2, ha1, ha2, tp, lt, KF, KS, getS, getO, gS, zipN, dropW, takeW, wds, stvs, sea, seaL, refs, refsL, refsEls, refsO, isPureEls, isPures, isPure, noExt, noExts, noExtEls, cellsL, ren, renL, renEls, keepO, keepS, keysO, refsS, refsOB, headC, setS, boxO, row, putW, putB, putB1, eNl, newOs, frz, renO, noExtO, zps, zp, two32, w64, -getElem?_pos, k_cnt, k_cnt0]
    · have ha1 : (at' == (b.length : Int)) = false := by simp [ha]
      have ha2 : (at' != (b.length : Int)) = true := by simp [ha]
      simp -implicitDefEqProofs (maxSteps := 1000000) (disch := first | omega | rfl) [m11b0, hS, H1, ha1, ha2, tp, lt, KF, KS, getS, getO, gS, zipN, dropW, takeW, wds, stvs, sea, seaL, refs, refsL, refsEls, refsO, isPureEls, isPures, isPure, noExt, noExts, noExtEls, cellsL, ren, renL, renEls, keepO, keepS, keysO, refsS, refsOB, headC, setS, boxO, row, putW, putB, putB1, eNl, newOs, frz, renO, noExtO, zps, zp, two32, w64, -getElem?_pos, k_cnt, k_cnt0]
theorem slc_at (ob : OB) (b : List (List PV)) (i : Nat) (hw : allW 1 b = true) (hi : i ≤ b.length) : slc ob (.slice 1) (.l false b) (some (.i .i64 i)) none none = some (.l false (b.drop i), []) := by
  have t : List.take b.length b = b := List.take_length
  simp [slc, hw, slL, optI, natI, hi, t]
theorem drop_by (ys : List Int) (i : Nat) : (byL ys).drop i = byL (ys.drop i) := by simp [byL]
set_option maxHeartbeats 8000000 in
/-- With a tag. -/
theorem e11t (Φ : Sem') (N : Nat) (g : SL → OB → Option R) (bs p : List Int) (S : List (Nat × Obj')) (r : PV) (h : Fra) (pl : Bool) (n : Int) (i : Nat) (hz : h.tag = z32) (hi : i ≤ bs.length) (hb : bs.length < 1000000) (hS : getO S 736 = none)
    (H1 : Φ 10 [.agg (frC { h with tag := tgAt bs i })] [] = outP pl p) (H2 : Φ 24 [.l false (byL p), .l false (byL bs)] [] = some (.b (decide (p = bs)), [])) :
    m11b0 Φ N [] g (sl11x r (byL bs) true i n) (ob11x S h) = cond (pl && ((((i + min (bs.length - i) 32 : Nat) : Int) == (bs.length : Int)) && decide (p = bs))) (some (.tup [.agg (frC { h with tag := tgAt bs i }), .i .i64 0], [])) (errR 3) := by
  have hl := byL_len bs
  have hp := byL_len p
  have hu := uz32
  have lt : ¬ n < n := Int.lt_irrefl n
  have hc := cpy_tag ((80, fbox zeF) :: (104, fbox h) :: S) h hz (bs.drop i) rfl
  have hs := fun ob => slc_at ob (byL bs) i (allW_by bs) (by omega)
  have hd := drop_by bs i
  rw [List.length_drop] at hc
  have ht : { h with tag := (bs.drop i).take 32 ++ z32.drop (min (bs.length - i) 32) } = ({ h with tag := tgAt bs i } : Fra) := rfl
  rw [ht] at hc
  rw [hd] at hs
  unfold outP at H1
  unfold errR
  have wa : IntKind.i64.wrap ((i : Int) + ((min (bs.length - i) 32 : Nat) : Int)) = ((i + min (bs.length - i) 32 : Nat) : Int) := by rw [IntKind.wrap_i64]; omega
  generalize hm : ((min (bs.length - i) 32 : Nat) : Int) = mm at *
  generalize ((i + min (bs.length - i) 32 : Nat) : Int) = at' at *
  rw [← hl]
  rw [← hp] at H1
  have tp : List.take (byL p).length (byL p) = byL p := List.take_length
  generalize decide (p = bs) = e at *
  generalize byL p = c at *
  generalize byL (bs.drop i) = b' at *
  generalize byL bs = b at *
  obtain ⟨a1, a2, a3, a4, a5, a6, a7, a8, a9⟩ := h
  simp only at hz
  subst hz
  simp only [sl11x, ob11x, fbox, frC, zeF, box, row] at *
  generalize uL (tgAt bs i) = q at *
  generalize uL z32 = z at *
  have hu' := hu.symm
  clear ht hm hd
  cases pl
  · simp only [cond_false] at H1
    simp -implicitDefEqProofs (maxSteps := 1000000) (disch := first | omega | rfl) [m11b0, hS, hu', H1, hc, hs, wa, lt, -List.reduceReplicate, KVl, KF, KS, getS, getO, gS, zipN, dropW, takeW, wds, stvs, sea, seaL, refs, refsL, refsEls, refsO, isPureEls, isPures, isPure, noExt, noExts, noExtEls, cellsL, ren, renL, renEls, keepO, keepS, keysO, refsS, refsOB, headC, setS, boxO, row, putW, putB, putB1, eNl, newOs, frz, renO, noExtO, zps, zp, two32, w64, -getElem?_pos, k_cnt, k_cnt0]
  · simp only [cond_true] at H1
    by_cases ha : at' = (b.length : Int)
    · have ha1 : (at' == (b.length : Int)) = true := by simp [ha]
      have ha2 : (at' != (b.length : Int)) = false := by simp [ha]
      cases e <;> simp -implicitDefEqProofs (maxSteps := 1000000) (disch := first | omega | rfl) [m11b0, hS, hu', H1, H2, hc, hs, wa, ha1, ha2, tp, lt, -List.reduceReplicate, KVl, KF, KS, getS, getO, gS, zipN, dropW, takeW, wds, stvs, sea, seaL, refs, refsL, refsEls, refsO, isPureEls, isPures, isPure, noExt, noExts, noExtEls, cellsL, ren, renL, renEls, keepO, keepS, keysO, refsS, refsOB, headC, setS, boxO, row, putW, putB, putB1, eNl, newOs, frz, renO, noExtO, zps, zp, two32, w64, -getElem?_pos, k_cnt, k_cnt0]
    · have ha1 : (at' == (b.length : Int)) = false := by simp [ha]
      have ha2 : (at' != (b.length : Int)) = true := by simp [ha]
      simp -implicitDefEqProofs (maxSteps := 1000000) (disch := first | omega | rfl) [m11b0, hS, hu', H1, hc, hs, wa, ha1, ha2, tp, lt, -List.reduceReplicate, KVl, KF, KS, getS, getO, gS, zipN, dropW, takeW, wds, stvs, sea, seaL, refs, refsL, refsEls, refsO, isPureEls, isPures, isPure, noExt, noExts, noExtEls, cellsL, ren, renL, renEls, keepO, keepS, keysO, refsS, refsOB, headC, setS, boxO, row, putW, putB, putB1, eNl, newOs, frz, renO, noExtO, zps, zp, two32, w64, -getElem?_pos, k_cnt, k_cnt0]
end
section
attribute [local congr] bnd_cg bndO_cg br_cg
theorem kind_get (k : Int) (bs : List Int) (hk : inB k 0 6 = true) : (getF k bs).kind = k := by
  rcases kinds hk with e | e | e | e | e | e | e <;> subst e <;> rfl
theorem ahead_sz (k : Int) (hk : inB k 0 6 = true) : aheadF k + (cond (tagdF k) 32 0) = szF k + 2 := by
  rcases kinds hk with e | e | e | e | e | e | e <;> subst e <;> rfl
theorem put_get_len (k : Int) (bs : List Int) (hk : inB k 0 6 = true) (hr : ∀ x ∈ bs, 0 ≤ x ∧ x ≤ 255) : (putF (getF k bs)).length = szF k + 2 := by
  rw [putF_len _ (by rw [kind_get k bs hk]; exact hk) (okF_get k bs hr).tag, kind_get k bs hk]
def gdK (k : Int) (bs : List Int) : Bool := plainF (getF k bs) && decide (putF (getF k bs) = bs)
theorem bad11 (k : Int) (bs : List Int) (hk : inB k 0 6 = true) (hr : ∀ x ∈ bs, 0 ≤ x ∧ x ≤ 255) (h : bs.length < aheadF k) : gdK k bs = false := by
  have hl := put_get_len k bs hk hr
  have := ahead_sz k hk
  have ht : (cond (tagdF k) 32 0 : Nat) ≤ 32 := by cases tagdF k <;> decide
  unfold gdK
  by_cases e : putF (getF k bs) = bs
  · rw [e] at hl; omega
  · simp [e]
theorem fin11 (k : Int) (bs : List Int) (hk : inB k 0 6 = true) (hr : ∀ x ∈ bs, 0 ≤ x ∧ x ≤ 255) (at' : Int) (h : bs.length = szF k + 2 → at' = bs.length) (pl : Bool) : (pl && ((at' == (bs.length : Int)) && decide (putF (getF k bs) = bs))) = (pl && decide (putF (getF k bs) = bs)) := by
  by_cases e : putF (getF k bs) = bs
  · have hl := put_get_len k bs hk hr
    rw [e] at hl
    simp [e, h hl]
  · simp [e]
def okR (f : Fra) : Option R := some (.tup [.agg (frC f), .i .i64 0], [])
theorem lp11_0 (M d : Nat) (bs : List Int) (hb : bs.length ≤ 64) (hr : ∀ x ∈ bs, 0 ≤ x ∧ x ≤ 255) : loopC (m11b0 (sem tab (M + 1000) (d + 5)) (M + 1000) []) (M + 1000) (sl11 (byL bs) false 3 2 0) (ob11 0 ⟨0, 0, 0, 0, 0, 0, 0, 0, z32⟩) = cond (gdK 0 bs) (okR (getF 0 bs)) (errR 3) := by
  have hbad := bad11 0 bs rfl hr
  by_cases c0 : 4 ≤ bs.length
  rotate_left
  · have x := V23x (M + 900) (d + 3) false bs 3 1 (by omega) (by omega) (by omega) (by omega)
    rw [k_loop, x11_0_0 _ _ _ _  x, hbad (by show bs.length < 12; omega)]; rfl
  have y0 := V99 (M + 900) (d + 3) false bs 3 1 (by omega) (by omega) hr (by omega)
  have w0 : IntKind.i64.wrap (vAt bs 3 1) = vAt bs 3 1 := by
    have := vAt_range bs hr 3 1 (by decide)
    rw [IntKind.wrap_i64]; omega
  rw [k_loop, s11_0_0 _ _ _ _  (vAt bs 3 1) w0 y0]
  by_cases c1 : 12 ≤ bs.length
  rotate_left
  · have x := V23x (M + 900) (d + 3) false bs 4 8 (by omega) (by omega) (by omega) (by omega)
    rw [k_loop, x11_0_1 _ _ _ _ (vAt bs 3 1) x, hbad (by show bs.length < 12; omega)]; rfl
  have y1 := V99 (M + 900) (d + 3) false bs 4 8 (by omega) (by omega) hr (by omega)
  rw [k_loop, s11_0_1 _ _ _ _ (vAt bs 3 1) (vAt bs 4 8) y1]
  have o := okF_get 0 bs hr
  have h10 := V10 (M + 900) d (getF 0 bs) o
  have pl := put_get_len 0 bs rfl hr
  have sz := szF_le 0
  have h24 := U95 M (d + 4) (putF (getF 0 bs)) bs (by omega)
  have e := e11u (sem tab (M + 1000) (d + 5)) (M + 1000) (loopC (m11b0 (sem tab (M + 1000) (d + 5)) (M + 1000) []) (M + 997)) bs (putF (getF 0 bs)) [(376, rowS (slF 104 0) (cpF 0))] (.sl 376 0 0 2) (getF 0 bs) (plainF (getF 0 bs)) 2 12 rfl h10 h24
  rw [fin11 0 bs rfl hr _ (by intro h; have h : bs.length = 12 := h; omega) _] at e
  rw [k_loop]
  exact e
theorem lp11_1 (M d : Nat) (bs : List Int) (hb : bs.length ≤ 64) (hr : ∀ x ∈ bs, 0 ≤ x ∧ x ≤ 255) : loopC (m11b0 (sem tab (M + 1000) (d + 5)) (M + 1000) []) (M + 1000) (sl11 (byL bs) false 3 2 0) (ob11 1 ⟨1, 0, 0, 0, 0, 0, 0, 0, z32⟩) = cond (gdK 1 bs) (okR (getF 1 bs)) (errR 3) := by
  have hbad := bad11 1 bs rfl hr
  by_cases c0 : 11 ≤ bs.length
  rotate_left
  · have x := V23x (M + 900) (d + 3) false bs 3 8 (by omega) (by omega) (by omega) (by omega)
    rw [k_loop, x11_1_0 _ _ _ _  x, hbad (by show bs.length < 15; omega)]; rfl
  have y0 := V99 (M + 900) (d + 3) false bs 3 8 (by omega) (by omega) hr (by omega)
  rw [k_loop, s11_1_0 _ _ _ _  (vAt bs 3 8) y0]
  by_cases c1 : 15 ≤ bs.length
  rotate_left
  · have x := V23x (M + 900) (d + 3) false bs 11 4 (by omega) (by omega) (by omega) (by omega)
    rw [k_loop, x11_1_1 _ _ _ _ (vAt bs 3 8) x, hbad (by show bs.length < 15; omega)]; rfl
  have y1 := V99 (M + 900) (d + 3) false bs 11 4 (by omega) (by omega) hr (by omega)
  have w1 : IntKind.i64.wrap (vAt bs 11 4) = vAt bs 11 4 := by
    have := vAt_range bs hr 11 4 (by decide)
    rw [IntKind.wrap_i64]; omega
  rw [k_loop, s11_1_1 _ _ _ _ (vAt bs 3 8) (vAt bs 11 4) w1 y1]
  have o := okF_get 1 bs hr
  have h10 := V10 (M + 900) d (getF 1 bs) o
  have pl := put_get_len 1 bs rfl hr
  have sz := szF_le 1
  have h24 := U95 M (d + 4) (putF (getF 1 bs)) bs (by omega)
  have e := e11u (sem tab (M + 1000) (d + 5)) (M + 1000) (loopC (m11b0 (sem tab (M + 1000) (d + 5)) (M + 1000) []) (M + 997)) bs (putF (getF 1 bs)) [(376, rowS (slF 104 1) (cpF 1))] (.sl 376 0 0 2) (getF 1 bs) (plainF (getF 1 bs)) 2 15 rfl h10 h24
  rw [fin11 1 bs rfl hr _ (by intro h; have h : bs.length = 15 := h; omega) _] at e
  rw [k_loop]
  exact e
theorem lp11_2 (M d : Nat) (bs : List Int) (hb : bs.length ≤ 64) (hr : ∀ x ∈ bs, 0 ≤ x ∧ x ≤ 255) : loopC (m11b0 (sem tab (M + 1000) (d + 5)) (M + 1000) []) (M + 1000) (sl11 (byL bs) true 3 1 0) (ob11 2 ⟨2, 0, 0, 0, 0, 0, 0, 0, z32⟩) = cond (gdK 2 bs) (okR (getF 2 bs)) (errR 3) := by
  have hbad := bad11 2 bs rfl hr
  by_cases c0 : 11 ≤ bs.length
  rotate_left
  · have x := V23x (M + 900) (d + 3) false bs 3 8 (by omega) (by omega) (by omega) (by omega)
    rw [k_loop, x11_2_0 _ _ _ _  x, hbad (by show bs.length < 11; omega)]; rfl
  have y0 := V99 (M + 900) (d + 3) false bs 3 8 (by omega) (by omega) hr (by omega)
  rw [k_loop, s11_2_0 _ _ _ _  (vAt bs 3 8) y0]
  have o := okF_get 2 bs hr
  have h10 := V10 (M + 900) d (getF 2 bs) o
  have pl := put_get_len 2 bs rfl hr
  have sz := szF_le 2
  have h24 := U95 M (d + 4) (putF (getF 2 bs)) bs (by omega)
  have e := e11t (sem tab (M + 1000) (d + 5)) (M + 1000) (loopC (m11b0 (sem tab (M + 1000) (d + 5)) (M + 1000) []) (M + 998)) bs (putF (getF 2 bs)) [(376, rowS (slF 104 2) (cpF 2))] (.sl 376 0 0 1) ⟨2, 0, (vAt bs 3 8), 0, 0, 0, 0, 0, z32⟩ (plainF (getF 2 bs)) 1 11 rfl (by omega) (by omega) rfl h10 h24
  rw [fin11 2 bs rfl hr _ (by intro h; have h : bs.length = 43 := h; omega) _] at e
  rw [k_loop]
  exact e
theorem lp11_3 (M d : Nat) (bs : List Int) (hb : bs.length ≤ 64) (hr : ∀ x ∈ bs, 0 ≤ x ∧ x ≤ 255) : loopC (m11b0 (sem tab (M + 1000) (d + 5)) (M + 1000) []) (M + 1000) (sl11 (byL bs) true 3 1 0) (ob11 3 ⟨3, 0, 0, 0, 0, 0, 0, 0, z32⟩) = cond (gdK 3 bs) (okR (getF 3 bs)) (errR 3) := by
  have hbad := bad11 3 bs rfl hr
  by_cases c0 : 11 ≤ bs.length
  rotate_left
  · have x := V23x (M + 900) (d + 3) false bs 3 8 (by omega) (by omega) (by omega) (by omega)
    rw [k_loop, x11_3_0 _ _ _ _  x, hbad (by show bs.length < 11; omega)]; rfl
  have y0 := V99 (M + 900) (d + 3) false bs 3 8 (by omega) (by omega) hr (by omega)
  rw [k_loop, s11_3_0 _ _ _ _  (vAt bs 3 8) y0]
  have o := okF_get 3 bs hr
  have h10 := V10 (M + 900) d (getF 3 bs) o
  have pl := put_get_len 3 bs rfl hr
  have sz := szF_le 3
  have h24 := U95 M (d + 4) (putF (getF 3 bs)) bs (by omega)
  have e := e11t (sem tab (M + 1000) (d + 5)) (M + 1000) (loopC (m11b0 (sem tab (M + 1000) (d + 5)) (M + 1000) []) (M + 998)) bs (putF (getF 3 bs)) [(376, rowS (slF 104 3) (cpF 3))] (.sl 376 0 0 1) ⟨3, 0, (vAt bs 3 8), 0, 0, 0, 0, 0, z32⟩ (plainF (getF 3 bs)) 1 11 rfl (by omega) (by omega) rfl h10 h24
  rw [fin11 3 bs rfl hr _ (by intro h; have h : bs.length = 43 := h; omega) _] at e
  rw [k_loop]
  exact e
theorem lp11_4 (M d : Nat) (bs : List Int) (hb : bs.length ≤ 64) (hr : ∀ x ∈ bs, 0 ≤ x ∧ x ≤ 255) : loopC (m11b0 (sem tab (M + 1000) (d + 5)) (M + 1000) []) (M + 1000) (sl11 (byL bs) true 3 4 0) (ob11 4 ⟨4, 0, 0, 0, 0, 0, 0, 0, z32⟩) = cond (gdK 4 bs) (okR (getF 4 bs)) (errR 3) := by
  have hbad := bad11 4 bs rfl hr
  by_cases c0 : 11 ≤ bs.length
  rotate_left
  · have x := V23x (M + 900) (d + 3) false bs 3 8 (by omega) (by omega) (by omega) (by omega)
    rw [k_loop, x11_4_0 _ _ _ _  x, hbad (by show bs.length < 22; omega)]; rfl
  have y0 := V99 (M + 900) (d + 3) false bs 3 8 (by omega) (by omega) hr (by omega)
  rw [k_loop, s11_4_0 _ _ _ _  (vAt bs 3 8) y0]
  by_cases c1 : 19 ≤ bs.length
  rotate_left
  · have x := V23x (M + 900) (d + 3) false bs 11 8 (by omega) (by omega) (by omega) (by omega)
    rw [k_loop, x11_4_1 _ _ _ _ (vAt bs 3 8) x, hbad (by show bs.length < 22; omega)]; rfl
  have y1 := V99 (M + 900) (d + 3) false bs 11 8 (by omega) (by omega) hr (by omega)
  rw [k_loop, s11_4_1 _ _ _ _ (vAt bs 3 8) (vAt bs 11 8) y1]
  by_cases c2 : 20 ≤ bs.length
  rotate_left
  · have x := V23x (M + 900) (d + 3) false bs 19 1 (by omega) (by omega) (by omega) (by omega)
    rw [k_loop, x11_4_2 _ _ _ _ (vAt bs 3 8) (vAt bs 11 8) x, hbad (by show bs.length < 22; omega)]; rfl
  have y2 := V99 (M + 900) (d + 3) false bs 19 1 (by omega) (by omega) hr (by omega)
  have w2 : IntKind.i64.wrap (vAt bs 19 1) = vAt bs 19 1 := by
    have := vAt_range bs hr 19 1 (by decide)
    rw [IntKind.wrap_i64]; omega
  rw [k_loop, s11_4_2 _ _ _ _ (vAt bs 3 8) (vAt bs 11 8) (vAt bs 19 1) w2 y2]
  by_cases c3 : 22 ≤ bs.length
  rotate_left
  · have x := V23x (M + 900) (d + 3) false bs 20 2 (by omega) (by omega) (by omega) (by omega)
    rw [k_loop, x11_4_3 _ _ _ _ (vAt bs 3 8) (vAt bs 11 8) (vAt bs 19 1) x, hbad (by show bs.length < 22; omega)]; rfl
  have y3 := V99 (M + 900) (d + 3) false bs 20 2 (by omega) (by omega) hr (by omega)
  have w3 : IntKind.i64.wrap (vAt bs 20 2) = vAt bs 20 2 := by
    have := vAt_range bs hr 20 2 (by decide)
    rw [IntKind.wrap_i64]; omega
  rw [k_loop, s11_4_3 _ _ _ _ (vAt bs 3 8) (vAt bs 11 8) (vAt bs 19 1) (vAt bs 20 2) w3 y3]
  have o := okF_get 4 bs hr
  have h10 := V10 (M + 900) d (getF 4 bs) o
  have pl := put_get_len 4 bs rfl hr
  have sz := szF_le 4
  have h24 := U95 M (d + 4) (putF (getF 4 bs)) bs (by omega)
  have e := e11t (sem tab (M + 1000) (d + 5)) (M + 1000) (loopC (m11b0 (sem tab (M + 1000) (d + 5)) (M + 1000) []) (M + 995)) bs (putF (getF 4 bs)) [(376, rowS (slF 104 4) (cpF 4))] (.sl 376 0 0 4) ⟨4, 0, (vAt bs 3 8), 0, 0, (vAt bs 11 8), (vAt bs 19 1), (vAt bs 20 2), z32⟩ (plainF (getF 4 bs)) 4 22 rfl (by omega) (by omega) rfl h10 h24
  rw [fin11 4 bs rfl hr _ (by intro h; have h : bs.length = 54 := h; omega) _] at e
  rw [k_loop]
  exact e
theorem lp11_5 (M d : Nat) (bs : List Int) (hb : bs.length ≤ 64) (hr : ∀ x ∈ bs, 0 ≤ x ∧ x ≤ 255) : loopC (m11b0 (sem tab (M + 1000) (d + 5)) (M + 1000) []) (M + 1000) (sl11 (byL bs) true 3 4 0) (ob11 5 ⟨5, 0, 0, 0, 0, 0, 0, 0, z32⟩) = cond (gdK 5 bs) (okR (getF 5 bs)) (errR 3) := by
  have hbad := bad11 5 bs rfl hr
  by_cases c0 : 11 ≤ bs.length
  rotate_left
  · have x := V23x (M + 900) (d + 3) false bs 3 8 (by omega) (by omega) (by omega) (by omega)
    rw [k_loop, x11_5_0 _ _ _ _  x, hbad (by show bs.length < 22; omega)]; rfl
  have y0 := V99 (M + 900) (d + 3) false bs 3 8 (by omega) (by omega) hr (by omega)
  rw [k_loop, s11_5_0 _ _ _ _  (vAt bs 3 8) y0]
  by_cases c1 : 19 ≤ bs.length
  rotate_left
  · have x := V23x (M + 900) (d + 3) false bs 11 8 (by omega) (by omega) (by omega) (by omega)
    rw [k_loop, x11_5_1 _ _ _ _ (vAt bs 3 8) x, hbad (by show bs.length < 22; omega)]; rfl
  have y1 := V99 (M + 900) (d + 3) false bs 11 8 (by omega) (by omega) hr (by omega)
  rw [k_loop, s11_5_1 _ _ _ _ (vAt bs 3 8) (vAt bs 11 8) y1]
  by_cases c2 : 20 ≤ bs.length
  rotate_left
  · have x := V23x (M + 900) (d + 3) false bs 19 1 (by omega) (by omega) (by omega) (by omega)
    rw [k_loop, x11_5_2 _ _ _ _ (vAt bs 3 8) (vAt bs 11 8) x, hbad (by show bs.length < 22; omega)]; rfl
  have y2 := V99 (M + 900) (d + 3) false bs 19 1 (by omega) (by omega) hr (by omega)
  have w2 : IntKind.i64.wrap (vAt bs 19 1) = vAt bs 19 1 := by
    have := vAt_range bs hr 19 1 (by decide)
    rw [IntKind.wrap_i64]; omega
  rw [k_loop, s11_5_2 _ _ _ _ (vAt bs 3 8) (vAt bs 11 8) (vAt bs 19 1) w2 y2]
  by_cases c3 : 22 ≤ bs.length
  rotate_left
  · have x := V23x (M + 900) (d + 3) false bs 20 2 (by omega) (by omega) (by omega) (by omega)
    rw [k_loop, x11_5_3 _ _ _ _ (vAt bs 3 8) (vAt bs 11 8) (vAt bs 19 1) x, hbad (by show bs.length < 22; omega)]; rfl
  have y3 := V99 (M + 900) (d + 3) false bs 20 2 (by omega) (by omega) hr (by omega)
  have w3 : IntKind.i64.wrap (vAt bs 20 2) = vAt bs 20 2 := by
    have := vAt_range bs hr 20 2 (by decide)
    rw [IntKind.wrap_i64]; omega
  rw [k_loop, s11_5_3 _ _ _ _ (vAt bs 3 8) (vAt bs 11 8) (vAt bs 19 1) (vAt bs 20 2) w3 y3]
  have o := okF_get 5 bs hr
  have h10 := V10 (M + 900) d (getF 5 bs) o
  have pl := put_get_len 5 bs rfl hr
  have sz := szF_le 5
  have h24 := U95 M (d + 4) (putF (getF 5 bs)) bs (by omega)
  have e := e11t (sem tab (M + 1000) (d + 5)) (M + 1000) (loopC (m11b0 (sem tab (M + 1000) (d + 5)) (M + 1000) []) (M + 995)) bs (putF (getF 5 bs)) [(376, rowS (slF 104 5) (cpF 5))] (.sl 376 0 0 4) ⟨5, 0, (vAt bs 3 8), 0, 0, (vAt bs 11 8), (vAt bs 19 1), (vAt bs 20 2), z32⟩ (plainF (getF 5 bs)) 4 22 rfl (by omega) (by omega) rfl h10 h24
  rw [fin11 5 bs rfl hr _ (by intro h; have h : bs.length = 54 := h; omega) _] at e
  rw [k_loop]
  exact e
theorem lp11_6 (M d : Nat) (bs : List Int) (hb : bs.length ≤ 64) (hr : ∀ x ∈ bs, 0 ≤ x ∧ x ≤ 255) : loopC (m11b0 (sem tab (M + 1000) (d + 5)) (M + 1000) []) (M + 1000) (sl11 (byL bs) false 3 1 0) (ob11 6 ⟨6, 0, 0, 0, 0, 0, 0, 0, z32⟩) = cond (gdK 6 bs) (okR (getF 6 bs)) (errR 3) := by
  have hbad := bad11 6 bs rfl hr
  by_cases c0 : 4 ≤ bs.length
  rotate_left
  · have x := V23x (M + 900) (d + 3) false bs 3 1 (by omega) (by omega) (by omega) (by omega)
    rw [k_loop, x11_6_0 _ _ _ _  x, hbad (by show bs.length < 4; omega)]; rfl
  have y0 := V99 (M + 900) (d + 3) false bs 3 1 (by omega) (by omega) hr (by omega)
  have w0 : IntKind.i64.wrap (vAt bs 3 1) = vAt bs 3 1 := by
    have := vAt_range bs hr 3 1 (by decide)
    rw [IntKind.wrap_i64]; omega
  rw [k_loop, s11_6_0 _ _ _ _  (vAt bs 3 1) w0 y0]
  have o := okF_get 6 bs hr
  have h10 := V10 (M + 900) d (getF 6 bs) o
  have pl := put_get_len 6 bs rfl hr
  have sz := szF_le 6
  have h24 := U95 M (d + 4) (putF (getF 6 bs)) bs (by omega)
  have e := e11u (sem tab (M + 1000) (d + 5)) (M + 1000) (loopC (m11b0 (sem tab (M + 1000) (d + 5)) (M + 1000) []) (M + 998)) bs (putF (getF 6 bs)) [(376, rowS (slF 104 6) (cpF 6))] (.sl 376 0 0 1) (getF 6 bs) (plainF (getF 6 bs)) 1 4 rfl h10 h24
  rw [fin11 6 bs rfl hr _ (by intro h; have h : bs.length = 4 := h; omega) _] at e
  rw [k_loop]
  exact e
end
section
attribute [local congr] bnd_cg bndO_cg br_cg
def outRd (bs : List Int) : Option R := cond (goodF bs) (okR (seemF bs)) (errR (errF bs))
set_option maxHeartbeats 4000000 in
theorem R11_0 (M d : Nat) (bs : List Int) (hb : bs.length ≤ 64) (h3 : 3 ≤ bs.length) (hr : ∀ x ∈ bs, 0 ≤ x ∧ x ≤ 255) (hL : longF bs = bs.length) (hx : (byL bs)[2]? = some [.i .u8 0]) :
    m11 (sem tab (M + 1000) (d + 5)) (M + 1000) [.l false (byL bs)] [] = cond (gdK 0 bs) (okR (getF 0 bs)) (errR 3) := by
  have h := lp11_0 M d bs hb hr
  have h21 := V21 (M + 900) (d + 2) bs (by omega) hr
  rw [hL, show M + 900 + 100 = M + 1000 by omega, show d + 2 + 3 = d + 5 by omega] at h21
  have c : ca (sem tab (M + 1000) (d + 5)) [(104, fbox ⟨0, 0, 0, 0, 0, 0, 0, 0, z32⟩), (104, fbox zeF), (80, fbox zeF)] 376 false 22 [.p 104 0 0 0 none] = some (.tup [.sl 376 0 0 2, .b false], [(376, rowS [sN 104 1 1, sU 104 3 8] (some 2)), (104, fbox ⟨0, 0, 0, 0, 0, 0, 0, 0, z32⟩)]) := k_ca22 (sem tab (M + 1000) (d + 5)) [(104, fbox ⟨0, 0, 0, 0, 0, 0, 0, 0, z32⟩), (104, fbox zeF), (80, fbox zeF)] 376 104 _ ⟨0, 0, 0, 0, 0, 0, 0, 0, z32⟩ _ rfl rfl rfl (V22 (M + 1000) (d + 3) ⟨0, 0, 0, 0, 0, 0, 0, 0, z32⟩ rfl)
  have hl := byL_len bs
  have c1 : ¬ ((bs.length : Int) > 64) := by omega
  have c2 : ((bs.length : Int) == -1) = false := by simp
  have c3 : ((bs.length : Int) == 2) = false := by simp; omega
  have wk : IntKind.i64.wrap (0 : Int) = 0 := by decide
  rw [k_loop] at h
  have h : m11b0 (sem tab (M + 1000) (d + 5)) (M + 1000) [] (loopC (m11b0 (sem tab (M + 1000) (d + 5)) (M + 1000) []) (M + 999)) [(0, .l false (byL bs)), (2, .p 80 0 0 0 none), (5, .p 104 0 0 0 none), (7, .b false), (8, .i .i64 3), (42, .sl 376 0 0 2), (43, .i .i64 2), (44, .i .i64 0)] [(80, fbox zeF), (104, fbox ⟨0, 0, 0, 0, 0, 0, 0, 0, z32⟩), (376, rowS [sN 104 1 1, sU 104 3 8] (some 2))] = cond (gdK 0 bs) (okR (getF 0 bs)) (errR 3) := h
  generalize cond (gdK 0 bs) (okR (getF 0 bs)) (errR 3) = res at *
  have hu' := uz32.symm
  rw [← hl] at h21 c1 c2 c3
  simp only [sl11, fbox, frC, rowS, sU, sN, box, zeF] at h c
  generalize uL z32 = z at *
  generalize byL bs = b at *
  simp -implicitDefEqProofs (maxSteps := 1000000) (disch := first | omega | rfl) [m11, h21, c, h, c1, c2, c3, hx, wk, hu', boxO, -List.reduceReplicate, KF, KS, getS, getO, gS, zipN, dropW, takeW, wds, stvs, sea, seaL, refs, refsL, refsEls, refsO, isPureEls, isPures, isPure, noExt, noExts, noExtEls, cellsL, ren, renL, renEls, keepO, keepS, keysO, refsS, refsOB, headC, setS, boxO, row, putW, putB, putB1, eNl, newOs, frz, renO, noExtO, zps, zp, two32, w64, -getElem?_pos, k_cnt, k_cnt0]
set_option maxHeartbeats 4000000 in
theorem R11_1 (M d : Nat) (bs : List Int) (hb : bs.length ≤ 64) (h3 : 3 ≤ bs.length) (hr : ∀ x ∈ bs, 0 ≤ x ∧ x ≤ 255) (hL : longF bs = bs.length) (hx : (byL bs)[2]? = some [.i .u8 1]) :
    m11 (sem tab (M + 1000) (d + 5)) (M + 1000) [.l false (byL bs)] [] = cond (gdK 1 bs) (okR (getF 1 bs)) (errR 3) := by
  have h := lp11_1 M d bs hb hr
  have h21 := V21 (M + 900) (d + 2) bs (by omega) hr
  rw [hL, show M + 900 + 100 = M + 1000 by omega, show d + 2 + 3 = d + 5 by omega] at h21
  have c : ca (sem tab (M + 1000) (d + 5)) [(104, fbox ⟨1, 0, 0, 0, 0, 0, 0, 0, z32⟩), (104, fbox zeF), (80, fbox zeF)] 376 false 22 [.p 104 0 0 0 none] = some (.tup [.sl 376 0 0 2, .b false], [(376, rowS [sU 104 2 8, sN 104 4 4] (some 2)), (104, fbox ⟨1, 0, 0, 0, 0, 0, 0, 0, z32⟩)]) := k_ca22 (sem tab (M + 1000) (d + 5)) [(104, fbox ⟨1, 0, 0, 0, 0, 0, 0, 0, z32⟩), (104, fbox zeF), (80, fbox zeF)] 376 104 _ ⟨1, 0, 0, 0, 0, 0, 0, 0, z32⟩ _ rfl rfl rfl (V22 (M + 1000) (d + 3) ⟨1, 0, 0, 0, 0, 0, 0, 0, z32⟩ rfl)
  have hl := byL_len bs
  have c1 : ¬ ((bs.length : Int) > 64) := by omega
  have c2 : ((bs.length : Int) == -1) = false := by simp
  have c3 : ((bs.length : Int) == 2) = false := by simp; omega
  have wk : IntKind.i64.wrap (1 : Int) = 1 := by decide
  rw [k_loop] at h
  have h : m11b0 (sem tab (M + 1000) (d + 5)) (M + 1000) [] (loopC (m11b0 (sem tab (M + 1000) (d + 5)) (M + 1000) []) (M + 999)) [(0, .l false (byL bs)), (2, .p 80 0 0 0 none), (5, .p 104 0 0 0 none), (7, .b false), (8, .i .i64 3), (42, .sl 376 0 0 2), (43, .i .i64 2), (44, .i .i64 0)] [(80, fbox zeF), (104, fbox ⟨1, 0, 0, 0, 0, 0, 0, 0, z32⟩), (376, rowS [sU 104 2 8, sN 104 4 4] (some 2))] = cond (gdK 1 bs) (okR (getF 1 bs)) (errR 3) := h
  generalize cond (gdK 1 bs) (okR (getF 1 bs)) (errR 3) = res at *
  have hu' := uz32.symm
  rw [← hl] at h21 c1 c2 c3
  simp only [sl11, fbox, frC, rowS, sU, sN, box, zeF] at h c
  generalize uL z32 = z at *
  generalize byL bs = b at *
  simp -implicitDefEqProofs (maxSteps := 1000000) (disch := first | omega | rfl) [m11, h21, c, h, c1, c2, c3, hx, wk, hu', boxO, -List.reduceReplicate, KF, KS, getS, getO, gS, zipN, dropW, takeW, wds, stvs, sea, seaL, refs, refsL, refsEls, refsO, isPureEls, isPures, isPure, noExt, noExts, noExtEls, cellsL, ren, renL, renEls, keepO, keepS, keysO, refsS, refsOB, headC, setS, boxO, row, putW, putB, putB1, eNl, newOs, frz, renO, noExtO, zps, zp, two32, w64, -getElem?_pos, k_cnt, k_cnt0]
set_option maxHeartbeats 4000000 in
theorem R11_2 (M d : Nat) (bs : List Int) (hb : bs.length ≤ 64) (h3 : 3 ≤ bs.length) (hr : ∀ x ∈ bs, 0 ≤ x ∧ x ≤ 255) (hL : longF bs = bs.length) (hx : (byL bs)[2]? = some [.i .u8 2]) :
    m11 (sem tab (M + 1000) (d + 5)) (M + 1000) [.l false (byL bs)] [] = cond (gdK 2 bs) (okR (getF 2 bs)) (errR 3) := by
  have h := lp11_2 M d bs hb hr
  have h21 := V21 (M + 900) (d + 2) bs (by omega) hr
  rw [hL, show M + 900 + 100 = M + 1000 by omega, show d + 2 + 3 = d + 5 by omega] at h21
  have c : ca (sem tab (M + 1000) (d + 5)) [(104, fbox ⟨2, 0, 0, 0, 0, 0, 0, 0, z32⟩), (104, fbox zeF), (80, fbox zeF)] 376 false 22 [.p 104 0 0 0 none] = some (.tup [.sl 376 0 0 1, .b true], [(376, rowS [sU 104 2 8] none), (104, fbox ⟨2, 0, 0, 0, 0, 0, 0, 0, z32⟩)]) := k_ca22 (sem tab (M + 1000) (d + 5)) [(104, fbox ⟨2, 0, 0, 0, 0, 0, 0, 0, z32⟩), (104, fbox zeF), (80, fbox zeF)] 376 104 _ ⟨2, 0, 0, 0, 0, 0, 0, 0, z32⟩ _ rfl rfl rfl (V22 (M + 1000) (d + 3) ⟨2, 0, 0, 0, 0, 0, 0, 0, z32⟩ rfl)
  have hl := byL_len bs
  have c1 : ¬ ((bs.length : Int) > 64) := by omega
  have c2 : ((bs.length : Int) == -1) = false := by simp
  have c3 : ((bs.length : Int) == 2) = false := by simp; omega
  have wk : IntKind.i64.wrap (2 : Int) = 2 := by decide
  rw [k_loop] at h
  have h : m11b0 (sem tab (M + 1000) (d + 5)) (M + 1000) [] (loopC (m11b0 (sem tab (M + 1000) (d + 5)) (M + 1000) []) (M + 999)) [(0, .l false (byL bs)), (2, .p 80 0 0 0 none), (5, .p 104 0 0 0 none), (7, .b true), (8, .i .i64 3), (42, .sl 376 0 0 1), (43, .i .i64 1), (44, .i .i64 0)] [(80, fbox zeF), (104, fbox ⟨2, 0, 0, 0, 0, 0, 0, 0, z32⟩), (376, rowS [sU 104 2 8] none)] = cond (gdK 2 bs) (okR (getF 2 bs)) (errR 3) := h
  generalize cond (gdK 2 bs) (okR (getF 2 bs)) (errR 3) = res at *
  have hu' := uz32.symm
  rw [← hl] at h21 c1 c2 c3
  simp only [sl11, fbox, frC, rowS, sU, sN, box, zeF] at h c
  generalize uL z32 = z at *
  generalize byL bs = b at *
  simp -implicitDefEqProofs (maxSteps := 1000000) (disch := first | omega | rfl) [m11, h21, c, h, c1, c2, c3, hx, wk, hu', boxO, -List.reduceReplicate, KF, KS, getS, getO, gS, zipN, dropW, takeW, wds, stvs, sea, seaL, refs, refsL, refsEls, refsO, isPureEls, isPures, isPure, noExt, noExts, noExtEls, cellsL, ren, renL, renEls, keepO, keepS, keysO, refsS, refsOB, headC, setS, boxO, row, putW, putB, putB1, eNl, newOs, frz, renO, noExtO, zps, zp, two32, w64, -getElem?_pos, k_cnt, k_cnt0]
set_option maxHeartbeats 4000000 in
theorem R11_3 (M d : Nat) (bs : List Int) (hb : bs.length ≤ 64) (h3 : 3 ≤ bs.length) (hr : ∀ x ∈ bs, 0 ≤ x ∧ x ≤ 255) (hL : longF bs = bs.length) (hx : (byL bs)[2]? = some [.i .u8 3]) :
    m11 (sem tab (M + 1000) (d + 5)) (M + 1000) [.l false (byL bs)] [] = cond (gdK 3 bs) (okR (getF 3 bs)) (errR 3) := by
  have h := lp11_3 M d bs hb hr
  have h21 := V21 (M + 900) (d + 2) bs (by omega) hr
  rw [hL, show M + 900 + 100 = M + 1000 by omega, show d + 2 + 3 = d + 5 by omega] at h21
  have c : ca (sem tab (M + 1000) (d + 5)) [(104, fbox ⟨3, 0, 0, 0, 0, 0, 0, 0, z32⟩), (104, fbox zeF), (80, fbox zeF)] 376 false 22 [.p 104 0 0 0 none] = some (.tup [.sl 376 0 0 1, .b true], [(376, rowS [sU 104 2 8] none), (104, fbox ⟨3, 0, 0, 0, 0, 0, 0, 0, z32⟩)]) := k_ca22 (sem tab (M + 1000) (d + 5)) [(104, fbox ⟨3, 0, 0, 0, 0, 0, 0, 0, z32⟩), (104, fbox zeF), (80, fbox zeF)] 376 104 _ ⟨3, 0, 0, 0, 0, 0, 0, 0, z32⟩ _ rfl rfl rfl (V22 (M + 1000) (d + 3) ⟨3, 0, 0, 0, 0, 0, 0, 0, z32⟩ rfl)
  have hl := byL_len bs
  have c1 : ¬ ((bs.length : Int) > 64) := by omega
  have c2 : ((bs.length : Int) == -1) = false := by simp
  have c3 : ((bs.length : Int) == 2) = false := by simp; omega
  have wk : IntKind.i64.wrap (3 : Int) = 3 := by decide
  rw [k_loop] at h
  have h : m11b0 (sem tab (M + 1000) (d + 5)) (M + 1000) [] (loopC (m11b0 (sem tab (M + 1000) (d + 5)) (M + 1000) []) (M + 999)) [(0, .l false (byL bs)), (2, .p 80 0 0 0 none), (5, .p 104 0 0 0 none), (7, .b true), (8, .i .i64 3), (42, .sl 376 0 0 1), (43, .i .i64 1), (44, .i .i64 0)] [(80, fbox zeF), (104, fbox ⟨3, 0, 0, 0, 0, 0, 0, 0, z32⟩), (376, rowS [sU 104 2 8] none)] = cond (gdK 3 bs) (okR (getF 3 bs)) (errR 3) := h
  generalize cond (gdK 3 bs) (okR (getF 3 bs)) (errR 3) = res at *
  have hu' := uz32.symm
  rw [← hl] at h21 c1 c2 c3
  simp only [sl11, fbox, frC, rowS, sU, sN, box, zeF] at h c
  generalize uL z32 = z at *
  generalize byL bs = b at *
  simp -implicitDefEqProofs (maxSteps := 1000000) (disch := first | omega | rfl) [m11, h21, c, h, c1, c2, c3, hx, wk, hu', boxO, -List.reduceReplicate, KF, KS, getS, getO, gS, zipN, dropW, takeW, wds, stvs, sea, seaL, refs, refsL, refsEls, refsO, isPureEls, isPures, isPure, noExt, noExts, noExtEls, cellsL, ren, renL, renEls, keepO, keepS, keysO, refsS, refsOB, headC, setS, boxO, row, putW, putB, putB1, eNl, newOs, frz, renO, noExtO, zps, zp, two32, w64, -getElem?_pos, k_cnt, k_cnt0]
set_option maxHeartbeats 4000000 in
theorem R11_4 (M d : Nat) (bs : List Int) (hb : bs.length ≤ 64) (h3 : 3 ≤ bs.length) (hr : ∀ x ∈ bs, 0 ≤ x ∧ x ≤ 255) (hL : longF bs = bs.length) (hx : (byL bs)[2]? = some [.i .u8 4]) :
    m11 (sem tab (M + 1000) (d + 5)) (M + 1000) [.l false (byL bs)] [] = cond (gdK 4 bs) (okR (getF 4 bs)) (errR 3) := by
  have h := lp11_4 M d bs hb hr
  have h21 := V21 (M + 900) (d + 2) bs (by omega) hr
  rw [hL, show M + 900 + 100 = M + 1000 by omega, show d + 2 + 3 = d + 5 by omega] at h21
  have c : ca (sem tab (M + 1000) (d + 5)) [(104, fbox ⟨4, 0, 0, 0, 0, 0, 0, 0, z32⟩), (104, fbox zeF), (80, fbox zeF)] 376 false 22 [.p 104 0 0 0 none] = some (.tup [.sl 376 0 0 4, .b true], [(376, rowS [sU 104 2 8, sU 104 5 8, sN 104 6 1, sN 104 7 2] none), (104, fbox ⟨4, 0, 0, 0, 0, 0, 0, 0, z32⟩)]) := k_ca22 (sem tab (M + 1000) (d + 5)) [(104, fbox ⟨4, 0, 0, 0, 0, 0, 0, 0, z32⟩), (104, fbox zeF), (80, fbox zeF)] 376 104 _ ⟨4, 0, 0, 0, 0, 0, 0, 0, z32⟩ _ rfl rfl rfl (V22 (M + 1000) (d + 3) ⟨4, 0, 0, 0, 0, 0, 0, 0, z32⟩ rfl)
  have hl := byL_len bs
  have c1 : ¬ ((bs.length : Int) > 64) := by omega
  have c2 : ((bs.length : Int) == -1) = false := by simp
  have c3 : ((bs.length : Int) == 2) = false := by simp; omega
  have wk : IntKind.i64.wrap (4 : Int) = 4 := by decide
  rw [k_loop] at h
  have h : m11b0 (sem tab (M + 1000) (d + 5)) (M + 1000) [] (loopC (m11b0 (sem tab (M + 1000) (d + 5)) (M + 1000) []) (M + 999)) [(0, .l false (byL bs)), (2, .p 80 0 0 0 none), (5, .p 104 0 0 0 none), (7, .b true), (8, .i .i64 3), (42, .sl 376 0 0 4), (43, .i .i64 4), (44, .i .i64 0)] [(80, fbox zeF), (104, fbox ⟨4, 0, 0, 0, 0, 0, 0, 0, z32⟩), (376, rowS [sU 104 2 8, sU 104 5 8, sN 104 6 1, sN 104 7 2] none)] = cond (gdK 4 bs) (okR (getF 4 bs)) (errR 3) := h
  generalize cond (gdK 4 bs) (okR (getF 4 bs)) (errR 3) = res at *
  have hu' := uz32.symm
  rw [← hl] at h21 c1 c2 c3
  simp only [sl11, fbox, frC, rowS, sU, sN, box, zeF] at h c
  generalize uL z32 = z at *
  generalize byL bs = b at *
  simp -implicitDefEqProofs (maxSteps := 1000000) (disch := first | omega | rfl) [m11, h21, c, h, c1, c2, c3, hx, wk, hu', boxO, -List.reduceReplicate, KF, KS, getS, getO, gS, zipN, dropW, takeW, wds, stvs, sea, seaL, refs, refsL, refsEls, refsO, isPureEls, isPures, isPure, noExt, noExts, noExtEls, cellsL, ren, renL, renEls, keepO, keepS, keysO, refsS, refsOB, headC, setS, boxO, row, putW, putB, putB1, eNl, newOs, frz, renO, noExtO, zps, zp, two32, w64, -getElem?_pos, k_cnt, k_cnt0]
set_option maxHeartbeats 4000000 in
theorem R11_5 (M d : Nat) (bs : List Int) (hb : bs.length ≤ 64) (h3 : 3 ≤ bs.length) (hr : ∀ x ∈ bs, 0 ≤ x ∧ x ≤ 255) (hL : longF bs = bs.length) (hx : (byL bs)[2]? = some [.i .u8 5]) :
    m11 (sem tab (M + 1000) (d + 5)) (M + 1000) [.l false (byL bs)] [] = cond (gdK 5 bs) (okR (getF 5 bs)) (errR 3) := by
  have h := lp11_5 M d bs hb hr
  have h21 := V21 (M + 900) (d + 2) bs (by omega) hr
  rw [hL, show M + 900 + 100 = M + 1000 by omega, show d + 2 + 3 = d + 5 by omega] at h21
  have c : ca (sem tab (M + 1000) (d + 5)) [(104, fbox ⟨5, 0, 0, 0, 0, 0, 0, 0, z32⟩), (104, fbox zeF), (80, fbox zeF)] 376 false 22 [.p 104 0 0 0 none] = some (.tup [.sl 376 0 0 4, .b true], [(376, rowS [sU 104 2 8, sU 104 5 8, sN 104 6 1, sN 104 7 2] none), (104, fbox ⟨5, 0, 0, 0, 0, 0, 0, 0, z32⟩)]) := k_ca22 (sem tab (M + 1000) (d + 5)) [(104, fbox ⟨5, 0, 0, 0, 0, 0, 0, 0, z32⟩), (104, fbox zeF), (80, fbox zeF)] 376 104 _ ⟨5, 0, 0, 0, 0, 0, 0, 0, z32⟩ _ rfl rfl rfl (V22 (M + 1000) (d + 3) ⟨5, 0, 0, 0, 0, 0, 0, 0, z32⟩ rfl)
  have hl := byL_len bs
  have c1 : ¬ ((bs.length : Int) > 64) := by omega
  have c2 : ((bs.length : Int) == -1) = false := by simp
  have c3 : ((bs.length : Int) == 2) = false := by simp; omega
  have wk : IntKind.i64.wrap (5 : Int) = 5 := by decide
  rw [k_loop] at h
  have h : m11b0 (sem tab (M + 1000) (d + 5)) (M + 1000) [] (loopC (m11b0 (sem tab (M + 1000) (d + 5)) (M + 1000) []) (M + 999)) [(0, .l false (byL bs)), (2, .p 80 0 0 0 none), (5, .p 104 0 0 0 none), (7, .b true), (8, .i .i64 3), (42, .sl 376 0 0 4), (43, .i .i64 4), (44, .i .i64 0)] [(80, fbox zeF), (104, fbox ⟨5, 0, 0, 0, 0, 0, 0, 0, z32⟩), (376, rowS [sU 104 2 8, sU 104 5 8, sN 104 6 1, sN 104 7 2] none)] = cond (gdK 5 bs) (okR (getF 5 bs)) (errR 3) := h
  generalize cond (gdK 5 bs) (okR (getF 5 bs)) (errR 3) = res at *
  have hu' := uz32.symm
  rw [← hl] at h21 c1 c2 c3
  simp only [sl11, fbox, frC, rowS, sU, sN, box, zeF] at h c
  generalize uL z32 = z at *
  generalize byL bs = b at *
  simp -implicitDefEqProofs (maxSteps := 1000000) (disch := first | omega | rfl) [m11, h21, c, h, c1, c2, c3, hx, wk, hu', boxO, -List.reduceReplicate, KF, KS, getS, getO, gS, zipN, dropW, takeW, wds, stvs, sea, seaL, refs, refsL, refsEls, refsO, isPureEls, isPures, isPure, noExt, noExts, noExtEls, cellsL, ren, renL, renEls, keepO, keepS, keysO, refsS, refsOB, headC, setS, boxO, row, putW, putB, putB1, eNl, newOs, frz, renO, noExtO, zps, zp, two32, w64, -getElem?_pos, k_cnt, k_cnt0]
set_option maxHeartbeats 4000000 in
theorem R11_6 (M d : Nat) (bs : List Int) (hb : bs.length ≤ 64) (h3 : 3 ≤ bs.length) (hr : ∀ x ∈ bs, 0 ≤ x ∧ x ≤ 255) (hL : longF bs = bs.length) (hx : (byL bs)[2]? = some [.i .u8 6]) :
    m11 (sem tab (M + 1000) (d + 5)) (M + 1000) [.l false (byL bs)] [] = cond (gdK 6 bs) (okR (getF 6 bs)) (errR 3) := by
  have h := lp11_6 M d bs hb hr
  have h21 := V21 (M + 900) (d + 2) bs (by omega) hr
  rw [hL, show M + 900 + 100 = M + 1000 by omega, show d + 2 + 3 = d + 5 by omega] at h21
  have c : ca (sem tab (M + 1000) (d + 5)) [(104, fbox ⟨6, 0, 0, 0, 0, 0, 0, 0, z32⟩), (104, fbox zeF), (80, fbox zeF)] 376 false 22 [.p 104 0 0 0 none] = some (.tup [.sl 376 0 0 1, .b false], [(376, rowS [sN 104 6 1] (some 1)), (104, fbox ⟨6, 0, 0, 0, 0, 0, 0, 0, z32⟩)]) := k_ca22 (sem tab (M + 1000) (d + 5)) [(104, fbox ⟨6, 0, 0, 0, 0, 0, 0, 0, z32⟩), (104, fbox zeF), (80, fbox zeF)] 376 104 _ ⟨6, 0, 0, 0, 0, 0, 0, 0, z32⟩ _ rfl rfl rfl (V22 (M + 1000) (d + 3) ⟨6, 0, 0, 0, 0, 0, 0, 0, z32⟩ rfl)
  have hl := byL_len bs
  have c1 : ¬ ((bs.length : Int) > 64) := by omega
  have c2 : ((bs.length : Int) == -1) = false := by simp
  have c3 : ((bs.length : Int) == 2) = false := by simp; omega
  have wk : IntKind.i64.wrap (6 : Int) = 6 := by decide
  rw [k_loop] at h
  have h : m11b0 (sem tab (M + 1000) (d + 5)) (M + 1000) [] (loopC (m11b0 (sem tab (M + 1000) (d + 5)) (M + 1000) []) (M + 999)) [(0, .l false (byL bs)), (2, .p 80 0 0 0 none), (5, .p 104 0 0 0 none), (7, .b false), (8, .i .i64 3), (42, .sl 376 0 0 1), (43, .i .i64 1), (44, .i .i64 0)] [(80, fbox zeF), (104, fbox ⟨6, 0, 0, 0, 0, 0, 0, 0, z32⟩), (376, rowS [sN 104 6 1] (some 1))] = cond (gdK 6 bs) (okR (getF 6 bs)) (errR 3) := h
  generalize cond (gdK 6 bs) (okR (getF 6 bs)) (errR 3) = res at *
  have hu' := uz32.symm
  rw [← hl] at h21 c1 c2 c3
  simp only [sl11, fbox, frC, rowS, sU, sN, box, zeF] at h c
  generalize uL z32 = z at *
  generalize byL bs = b at *
  simp -implicitDefEqProofs (maxSteps := 1000000) (disch := first | omega | rfl) [m11, h21, c, h, c1, c2, c3, hx, wk, hu', boxO, -List.reduceReplicate, KF, KS, getS, getO, gS, zipN, dropW, takeW, wds, stvs, sea, seaL, refs, refsL, refsEls, refsO, isPureEls, isPures, isPure, noExt, noExts, noExtEls, cellsL, ren, renL, renEls, keepO, keepS, keysO, refsS, refsOB, headC, setS, boxO, row, putW, putB, putB1, eNl, newOs, frz, renO, noExtO, zps, zp, two32, w64, -getElem?_pos, k_cnt, k_cnt0]
end
section
attribute [local congr] bnd_cg bndO_cg br_cg
theorem plain_kind (f : Fra) (h : inB f.kind 0 6 = false) : plainF f = false := by unfold plainF; rw [h]; rfl
set_option maxHeartbeats 4000000 in
theorem R11x (M d : Nat) (k : Int) (bs : List Int) (hk : inB k 0 6 = false) (h0 : 0 ≤ k ∧ k ≤ 255) (hb : bs.length ≤ 64) (h3 : 3 ≤ bs.length) (hr : ∀ x ∈ bs, 0 ≤ x ∧ x ≤ 255) (hL : longF bs = bs.length) (hx : (byL bs)[2]? = some [.i .u8 k]) :
    m11 (sem tab (M + 1000) (d + 5)) (M + 1000) [.l false (byL bs)] [] = errR 3 := by
  have o : okF ⟨k, 0, 0, 0, 0, 0, 0, 0, z32⟩ := ⟨okF_ze.sess, okF_ze.cn, okF_ze.count, z32_len, z32_range⟩
  have h10 := V10 (M + 900) d ⟨k, 0, 0, 0, 0, 0, 0, 0, z32⟩ o
  have hp := plain_kind ⟨k, 0, 0, 0, 0, 0, 0, 0, z32⟩ hk
  have e := e11u (sem tab (M + 1000) (d + 5)) (M + 1000) (loopC (m11b0 (sem tab (M + 1000) (d + 5)) (M + 1000) []) (M + 999)) bs bs [] (.e true) ⟨k, 0, 0, 0, 0, 0, 0, 0, z32⟩ false 0 3 rfl (by rw [hp] at h10; exact h10) (U95 M (d + 4) bs bs (by omega))
  rw [Bool.false_and, cond_false] at e
  have h21 := V21 (M + 900) (d + 2) bs (by omega) hr
  rw [hL, show M + 900 + 100 = M + 1000 by omega, show d + 2 + 3 = d + 5 by omega] at h21
  have c := k_ca22x (sem tab (M + 1000) (d + 5)) [(104, fbox ⟨k, 0, 0, 0, 0, 0, 0, 0, z32⟩), (104, fbox zeF), (80, fbox zeF)] 376 104 _ ⟨k, 0, 0, 0, 0, 0, 0, 0, z32⟩ rfl (V22x (M + 1000) (d + 3) ⟨k, 0, 0, 0, 0, 0, 0, 0, z32⟩ hk)
  have hl := byL_len bs
  have c1 : ¬ ((bs.length : Int) > 64) := by omega
  have c2 : ((bs.length : Int) == -1) = false := by simp
  have c3 : ((bs.length : Int) == 2) = false := by simp; omega
  have wk : IntKind.i64.wrap k = k := by rw [IntKind.wrap_i64]; omega
  generalize errR 3 = res at *
  have hu' := uz32.symm
  rw [← hl] at h21 c1 c2 c3
  clear h10
  simp only [sl11x, ob11x, fbox, frC, rowS, sU, sN, box, zeF] at e c
  generalize uL z32 = z at *
  generalize byL bs = b at *
  simp -implicitDefEqProofs (maxSteps := 1000000) (disch := first | omega | rfl) [m11, h21, c, e, c1, c2, c3, hx, wk, hu', boxO, -List.reduceReplicate, KF, KS, getS, getO, gS, zipN, dropW, takeW, wds, stvs, sea, seaL, refs, refsL, refsEls, refsO, isPureEls, isPures, isPure, noExt, noExts, noExtEls, cellsL, ren, renL, renEls, keepO, keepS, keysO, refsS, refsOB, headC, setS, boxO, row, putW, putB, putB1, eNl, newOs, frz, renO, noExtO, zps, zp, two32, w64, -getElem?_pos, k_cnt, k_cnt0]
theorem gdK_seem (bs : List Int) : gdK (bs.getD 2 0) bs = goodF bs := rfl
set_option maxHeartbeats 4000000 in
/-- The frame of bytes, or why none. -/
theorem V11 (M d : Nat) (bs : List Int) (hb : bs.length ≤ 10000) (hr : ∀ x ∈ bs, 0 ≤ x ∧ x ≤ 255) : sem tab (M + 1000) (d + 6) 11 [.l false (byL bs)] [] = outRd bs := by
  rw [sem_succ tab (M + 1000) (d + 5) 11 m11 rfl]
  have hl := byL_len bs
  have bad : (longF bs = bs.length → bs.length ≤ 54 → 4 ≤ bs.length → False) → goodF bs = false := fun h => by
    rw [← Bool.not_eq_true]; intro hg
    obtain ⟨g1, g2, g3⟩ := good_len hr hg
    exact h g1 g2 g3
  unfold outRd errF
  have hu' := uz32.symm
  by_cases c1 : (bs.length : Int) > 64
  · rw [bad (by omega), cond_false, if_pos (by omega)]
    unfold errR
    rw [← hl] at c1
    simp only [frC, zeF]
    generalize uL z32 = z at *
    generalize byL bs = b at *
    simp -implicitDefEqProofs (maxSteps := 1000000) (disch := first | omega | rfl) [m11, c1, hu', boxO, -List.reduceReplicate, KF, KS, getS, getO, gS, zipN, dropW, takeW, wds, stvs, sea, seaL, refs, refsL, refsEls, refsO, isPureEls, isPures, isPure, noExt, noExts, noExtEls, cellsL, ren, renL, renEls, keepO, keepS, keysO, refsS, refsOB, headC, setS, boxO, row, putW, putB, putB1, eNl, newOs, frz, renO, noExtO, zps, zp, two32, w64, -getElem?_pos, k_cnt, k_cnt0]
  have h21 := V21 (M + 900) (d + 2) bs (by omega) hr
  rw [show M + 900 + 100 = M + 1000 by omega, show d + 2 + 3 = d + 5 by omega] at h21
  rw [if_neg (show ¬ 64 < bs.length by omega)]
  by_cases c2 : longF bs = -1
  · rw [bad (by omega), cond_false, if_pos c2]
    unfold errR
    rw [c2] at h21
    rw [← hl] at c1
    simp only [frC, zeF]
    generalize uL z32 = z at *
    generalize byL bs = b at *
    simp -implicitDefEqProofs (maxSteps := 1000000) (disch := first | omega | rfl) [m11, h21, c1, hu', boxO, -List.reduceReplicate, KF, KS, getS, getO, gS, zipN, dropW, takeW, wds, stvs, sea, seaL, refs, refsL, refsEls, refsO, isPureEls, isPures, isPure, noExt, noExts, noExtEls, cellsL, ren, renL, renEls, keepO, keepS, keysO, refsS, refsOB, headC, setS, boxO, row, putW, putB, putB1, eNl, newOs, frz, renO, noExtO, zps, zp, two32, w64, -getElem?_pos, k_cnt, k_cnt0]
  rw [if_neg c2]
  by_cases c3 : longF bs = bs.length ∧ longF bs ≠ 2
  · obtain ⟨c3, c4⟩ := c3
    have h3 : 3 ≤ bs.length := by
      rcases long_cases bs hr with h | h <;> omega
    have h2 : 2 < bs.length := by omega
    have hk := hr bs[2] (List.getElem_mem h2)
    have hx : (byL bs)[2]? = some [.i .u8 bs[2]] := by simp [byL, h2]
    have hg : bs.getD 2 0 = bs[2] := by simp [List.getD, h2]
    rw [← gdK_seem, seemF, hg]
    generalize bs[2] = k at *
    cases hi : inB k 0 6
    · have hp : plainF (getF k bs) = false := by
        have : (getF k bs).kind = k := by
          have hh : ¬ (0 ≤ k ∧ k ≤ 6) := by intro h; simp [inB, h.1, h.2] at hi
          unfold getF
          rw [if_neg (by omega), if_neg (by omega), if_neg (by omega), if_neg (by omega), if_neg (by omega), if_neg (by omega)]
        exact plain_kind _ (by rw [this]; exact hi)
      have : gdK k bs = false := by unfold gdK; rw [hp]; rfl
      rw [this, cond_false]
      exact R11x M d k bs hi hk (by omega) h3 hr c3 hx
    · rcases kinds hi with e | e | e | e | e | e | e <;> subst e
      · exact R11_0 M d bs (by omega) h3 hr c3 hx
      · exact R11_1 M d bs (by omega) h3 hr c3 hx
      · exact R11_2 M d bs (by omega) h3 hr c3 hx
      · exact R11_3 M d bs (by omega) h3 hr c3 hx
      · exact R11_4 M d bs (by omega) h3 hr c3 hx
      · exact R11_5 M d bs (by omega) h3 hr c3 hx
      · exact R11_6 M d bs (by omega) h3 hr c3 hx
  · rw [bad (by omega), cond_false]
    unfold errR
    have c2' : (longF bs == -1) = false := by simp [c2]
    by_cases c4 : longF bs = bs.length
    · have c5 : longF bs = 2 := by omega
      have c6 : (bs.length : Int) = 2 := by omega
      rw [c5] at h21
      rw [← hl] at c1 c6
      simp only [frC, zeF]
      generalize uL z32 = z at *
      generalize byL bs = b at *
      simp -implicitDefEqProofs (maxSteps := 1000000) (disch := first | omega | rfl) [m11, h21, c1, c6, hu', boxO, -List.reduceReplicate, KF, KS, getS, getO, gS, zipN, dropW, takeW, wds, stvs, sea, seaL, refs, refsL, refsEls, refsO, isPureEls, isPures, isPure, noExt, noExts, noExtEls, cellsL, ren, renL, renEls, keepO, keepS, keysO, refsS, refsOB, headC, setS, boxO, row, putW, putB, putB1, eNl, newOs, frz, renO, noExtO, zps, zp, two32, w64, -getElem?_pos, k_cnt, k_cnt0]
    · have c5 : (longF bs != (bs.length : Int)) = true := by simp [c4]
      generalize longF bs = l at *
      rw [← hl] at c1 c5
      simp only [frC, zeF]
      generalize uL z32 = z at *
      generalize byL bs = b at *
      simp -implicitDefEqProofs (maxSteps := 1000000) (disch := first | omega | rfl) [m11, h21, c1, c2', c5, hu', boxO, -List.reduceReplicate, KF, KS, getS, getO, gS, zipN, dropW, takeW, wds, stvs, sea, seaL, refs, refsL, refsEls, refsO, isPureEls, isPures, isPure, noExt, noExts, noExtEls, cellsL, ren, renL, renEls, keepO, keepS, keysO, refsS, refsOB, headC, setS, boxO, row, putW, putB, putB1, eNl, newOs, frz, renO, noExtO, zps, zp, two32, w64, -getElem?_pos, k_cnt, k_cnt0]
end
section
theorem awake4 : sem tab 1000 8 9 [] [] = some (.b true, []) := by
  kernel_rfl
end
section
theorem chars_injF : ∀ xs ys : List Int, (∀ x ∈ xs, 0 ≤ x ∧ x ≤ 255) → (∀ x ∈ ys, 0 ≤ x ∧ x ≤ 255) → chars xs = chars ys → xs = ys
  | [], [], _, _, _ => rfl
  | [], _ :: _, _, _, h => by simp [chars] at h
  | _ :: _, [], _, _, h => by simp [chars] at h
  | x :: r, y :: s, hx, hy, h => by
    simp only [chars, List.map_cons, List.cons.injEq] at h
    have h1 := chars_injF r s (fun z hz => hx z (List.mem_cons_of_mem _ hz)) (fun z hz => hy z (List.mem_cons_of_mem _ hz)) (by simpa [chars] using h.2)
    have h2 := congrArg UInt8.toNat h.1
    have a := hx x (by simp)
    have b := hy y (by simp)
    rw [UInt8.toNat_ofNat', UInt8.toNat_ofNat'] at h2
    rw [h1, show x = y by omega]
theorem dec_charsF (xs ys : List Int) (hx : ∀ x ∈ xs, 0 ≤ x ∧ x ≤ 255) (hy : ∀ x ∈ ys, 0 ≤ x ∧ x ≤ 255) : decide (chars xs = chars ys) = decide (xs = ys) := by
  by_cases h : xs = ys
  · simp [h]
  · rw [decide_eq_false h, decide_eq_false (fun e => h (chars_injF xs ys hx hy e))]
theorem take_put (l : List Int) : List.take l.length (byL l) = byL l := List.take_of_length_le (by rw [byL_len]; exact Nat.le_refl _)
theorem eSt_frn (neg : Bool) (f g : Fra) (hf : f.tag.length = 32) (hg : g.tag.length = 32) : eSt neg [.i, .i, .i, .i, .i, .i, .i, .i, .a 32] (.agg (frC f)) (.agg (frC g)) = some (.b (eqFr f g ^^ neg)) := by
  have h := eqIs_uL f.tag g.tag (by rw [hf, hg])
  simp only [eSt, frC, eqSh, eqS1, if_pos rfl, andRR, andR, and_self, h, notR, eqFr]
  simp
theorem V10L (f : Fra) (o : okF f) : sem tab 1000 8 10 [.agg (frC f)] [] = cond (plainF f) (some (.tup [.sl 0 0 0 (putF f).length, .b true], [row (byL (putF f)) 1 true])) (some (.tup [.sl 0 0 0 0, .b false], [row [] 1 true])) := V10 900 3 f o
theorem V17L (f : Fra) (o : okF f) : sem tab 1000 8 17 [.agg (frC f)] [] = cond (plainF f && tagdF f.kind) (some (.sl 0 0 0 (aheadF f.kind), [row (byL (frontF f)) 1 true])) (some (.sl 0 0 0 0, [row [] 1 true])) := V17 900 3 f o
theorem V11L (bs : List Int) (hb : bs.length ≤ 10000) (hr : ∀ x ∈ bs, 0 ≤ x ∧ x ≤ 255) : sem tab 1000 8 11 [.l false (byL bs)] [] = outRd bs := V11 0 2 bs hb hr
end
section
attribute [local congr] bnd_cg bndO_cg br_cg
theorem k_okTl (xs : List (List PV)) : okT (.l false xs) = true := rfl
theorem V25f (N d : Nat) (xs : List (List PV)) : sem tab N (d + 1) 25 [.l false xs] [] = some (.fn 39 [] [.p 0 0 0 0 none], [box [.l false xs] 1]) := by
  kernel_rfl
/-- Frames, and what is left behind each. -/
def framesL : Nat → List Int → List (List Int × List Int)
  | 0, _ => []
  | k + 1, b => if longF b = -1 then [] else (b.take (longF b).toNat, b.drop (longF b).toNat) :: framesL k (b.drop (longF b).toNat)
def stFL (l : List (List Int × List Int)) : List (List PV) := l.map fun s => [.l false (byL s.1), .l false (byL s.2)]
def sl39f (n : Nat) (L : Int) : SL := [(0, .y 0 0 4), (1, .p 2 0 0 0 none), (3, .i .i64 L), (1000000, .y 1 n 0)]
def ob39f (n : Nat) (xs : List (List PV)) : OB := [(0, lpO), (1, { lpO with ver := n }), (2, box [.l false xs] 1)]
def noMoreF : Option R := some (.tup [.un, .l false []], [])
set_option maxHeartbeats 8000000 in
theorem step39f (M d : Nat) (g : SL → OB → Option R) (os : List Obj') (b : List Int) (n : Nat) (hb : b.length ≤ 100000) (hr : ∀ x ∈ b, 0 ≤ x ∧ x ≤ 255) (h : longF b ≠ -1) :
    m39b0 (sem tab (M + 1000) (d + 3)) (M + 1000) os g (sl39f n (longF b)) (ob39f n (byL b)) = consR [.l false (byL (b.take (longF b).toNat)), .l false (byL (b.drop (longF b).toNat))] (g (sl39f (n + 1) (longF (b.drop (longF b).toNat))) (ob39f (n + 1) (byL (b.drop (longF b).toNat)))) := by
  have h21 := V21 (M + 900) d (b.drop (longF b).toNat) (by rw [List.length_drop]; omega) (fun x hx => hr x (List.mem_of_mem_drop hx))
  rw [show M + 900 + 100 = M + 1000 by omega] at h21
  have hc := long_cases b hr
  have c : (longF b != -1) = true := by rw [bne_iff_ne]; exact h
  have bl := byL_len b
  have t1 : byL (b.take (longF b).toNat) = (byL b).take (longF b).toNat := by simp [byL]
  have t2 : byL (b.drop (longF b).toNat) = (byL b).drop (longF b).toNat := by simp [byL]
  rw [t1, t2]
  rw [t2] at h21
  generalize longF (b.drop (longF b).toNat) = L2 at *
  have c1 : 0 ≤ longF b := by omega
  have c2 : longF b ≤ (b.length : Int) := by omega
  have wb := allW_by b
  generalize longF b = L at *
  rw [← bl] at c2
  have tt : List.take (byL b).length (byL b) = byL b := List.take_length
  have c3 : L.toNat ≤ (byL b).length := by omega
  generalize byL b = y at *
  simp only [sl39f, ob39f]
  simp -implicitDefEqProofs (maxSteps := 1000000) (disch := first | omega | rfl) [m39b0, lpO, tslot, h21, c, c1, c2, c3, wb, tt, box, k_warm, k_okTl, KY, KF, KS, getS, getO, gS, zipN, dropW, takeW, wds, stvs, sea, seaL, refs, refsL, refsEls, refsO, isPureEls, isPures, isPure, noExt, noExts, noExtEls, cellsL, ren, renL, renEls, keepO, keepS, keysO, refsS, refsOB, headC, setS, boxO, row, putW, putB, putB1, eNl, newOs, frz, renO, noExtO, zps, zp, two32, w64, -getElem?_pos, k_cnt, k_cnt0]
theorem end39f (M d : Nat) (g : SL → OB → Option R) (os : List Obj') (xs : List (List PV)) (n : Nat) : m39b0 (sem tab (M + 1000) (d + 3)) (M + 1000) os g (sl39f n (-1)) (ob39f n xs) = noMoreF := by
  simp only [sl39f, ob39f]
  simp -implicitDefEqProofs (maxSteps := 1000000) (disch := first | omega | rfl) [m39b0, noMoreF, lpO, tslot, box, KY, KF, KS, getS, getO, gS, zipN, dropW, takeW, wds, stvs, sea, seaL, refs, refsL, refsEls, refsO, isPureEls, isPures, isPure, noExt, noExts, noExtEls, cellsL, ren, renL, renEls, keepO, keepS, keysO, refsS, refsOB, headC, setS, boxO, row, putW, putB, putB1, eNl, newOs, frz, renO, noExtO, zps, zp, two32, w64, -getElem?_pos, k_cnt, k_cnt0]
theorem consR_f (s : List Int × List Int) (l : List (List Int × List Int)) : consR [.l false (byL s.1), .l false (byL s.2)] (some (.tup [.un, .l false (stFL l)], [])) = some (.tup [.un, .l false (stFL (s :: l))], []) := rfl
theorem loop39f (M d : Nat) (os : List Obj') : ∀ (k n e : Nat) (b : List Int), b.length ≤ k → b.length ≤ 100000 → (∀ x ∈ b, 0 ≤ x ∧ x ≤ 255) →
    loopC (m39b0 (sem tab (M + 1000) (d + 3)) (M + 1000) os) (e + 1 + k) (sl39f n (longF b)) (ob39f n (byL b)) = some (.tup [.un, .l false (stFL (framesL k b))], []) := by
  intro k
  induction k with
  | zero =>
    intro n e b hl hb hr
    have : b = [] := List.length_eq_zero_iff.1 (by omega)
    subst this
    rw [Nat.add_zero, k_loop, show longF [] = -1 from rfl, end39f]; rfl
  | succ k ih =>
    intro n e b hl hb hr
    rw [← Nat.add_assoc, k_loop, framesL]
    by_cases c : longF b = -1
    · rw [if_pos c, c, end39f]; rfl
    · have hc := long_cases b hr
      rw [if_neg c, step39f M d _ os b n hb hr c, ih (n + 1) e _ (by rw [List.length_drop]; omega) (by rw [List.length_drop]; omega) (fun x hx => hr x (List.mem_of_mem_drop hx))]
      exact consR_f (_, _) _
set_option maxHeartbeats 8000000 in
theorem V39f (M d : Nat) (b : List Int) (hb : b.length ≤ 990) (hr : ∀ x ∈ b, 0 ≤ x ∧ x ≤ 255) : sem tab (M + 1000) (d + 4) 39 [.y 0 0 4, .p 2 0 0 0 none] [lpO, lpO, box [.l false (byL b)] 1] = some (.tup [.un, .l false (stFL (framesL b.length b))], []) := by
  rw [sem_succ tab (M + 1000) (d + 3) 39 m39 rfl]
  have h21 := V21 (M + 900) d b (by omega) hr
  rw [show M + 900 + 100 = M + 1000 by omega] at h21
  have h := loop39f M d [lpO, lpO, box [.l false (byL b)] 1] b.length 0 (M + 999 - b.length) b (Nat.le_refl _) (by omega) hr
  rw [show M + 999 - b.length + 1 + b.length = M + 1000 by omega] at h
  generalize stFL (framesL b.length b) = a at *
  rw [k_loop] at h
  simp only [sl39f, ob39f, lpO] at h ⊢
  generalize longF b = L at *
  generalize byL b = y at *
  simp only [box] at h
  simp -implicitDefEqProofs (maxSteps := 1000000) (disch := first | omega | rfl) [m39, h21, h, lpO, tslot, box, KY, KF, KS, getS, getO, gS, zipN, dropW, takeW, wds, stvs, sea, seaL, refs, refsL, refsEls, refsO, isPureEls, isPures, isPure, noExt, noExts, noExtEls, cellsL, ren, renL, renEls, keepO, keepS, keysO, refsS, refsOB, headC, setS, boxO, row, putW, putB, putB1, eNl, newOs, frz, renO, noExtO, zps, zp, two32, w64, -getElem?_pos, k_cnt, k_cnt0]
theorem rgF_frames (Φ : Sem') (ob : OB) (o : Nat) (b a : List (List PV)) (h1 : getO ob rp = none) (h2 : getO ob rq = none) (h3 : getO ob o = some (box [.l false b] 1)) (h64 : 64 ≤ o) (hp : o ≠ rp) (hq : o ≠ rq)
    (h4 : (refsOB (delO [rp, rq, o] ob)).any ([rp, rq, o].contains ·) = false)
    (h : Φ 39 [.y 0 0 4, .p 2 0 0 0 none] [lpO, lpO, box [.l false b] 1] = some (.tup [.un, .l false a], [])) :
    rgF Φ ob (.fn 39 [] [.p o 0 0 0 none]) = some ([rp, rq, o], a) := by
  have e1 : (o == rp) = false := by simpa using hp
  have e2 : (o == rq) = false := by simpa using hq
  have hp' : ¬ rp = o := fun e => hp e.symm
  have hq' : ¬ rq = o := fun e => hq e.symm
  have hpq : ¬ rp = rq := by decide
  have hqp : ¬ rq = rp := by decide
  have r1 : reach ((rp, lpO) :: (rq, lpO) :: ob) 20 [rp, rq, o] [] = some [rp, rq, o] := by
    simp [reach, getO, lpO, refsO, hp, hq, hp', hq', hpq, hqp, h3, box, refsEls, refsL, refs]
  have r2 : getOs ((rp, lpO) :: (rq, lpO) :: ob) [rp, rq, o] = some [lpO, lpO, box [.l false b] 1] := by
    simp [getOs, getO, hp', hq', hpq, h3]
  simp only [rgF, h1, h2, rgNo, refsL, refs, List.append_nil]
  rw [r1]
  simp only [rgRun]
  rw [r2]
  simp only [rgOs, h4]
  have ren1 : renL (idx [rp, rq, o]) [.y rp 0 4, .p o 0 0 0 none] = [.y 0 0 4, .p 2 0 0 0 none] := by simp [renL, ren, idx, hp', hq', hpq]
  have ren2 : ([lpO, lpO, box [.l false b] 1].map (renO (idx [rp, rq, o]))) = [lpO, lpO, box [.l false b] 1] := by simp [renO, lpO, box, renEls, renL, ren]
  rw [ren1, ren2, h]
  have k64 : decide (64 ≤ rp) = true ∧ decide (64 ≤ rq) = true := by decide
  simp [rgIt, lpO, box, h64, k64, rp, rq]
def rwL (l : List (List Int)) : List (List PV) := l.map fun s => [.l true (byL s)]
def hdSf : Hd := ⟨[], [4, 5], [96, 104, 111], [.row 96 0 500000 1, .row 96 0 111 1]⟩
def slSf : SL := [(4, .p 96 0 0 0 none), (5, .p 104 0 0 0 none)]
def obSf (xs r : List (List PV)) (n : Nat) : OB := [(96, box [.sl 111 0 0 n] 1), (104, box [.l false r] 1), (111, row xs 1 true)]
theorem allW_rw (l : List (List Int)) : allW 1 (rwL l) = true := by
  induction l with
  | nil => rfl
  | cons x r ih => simpa [rwL, allW, wds, wd] using ih
theorem rwL_len (l : List (List Int)) : (rwL l).length = l.length := by simp [rwL]
theorem rwL_app (l : List (List Int)) (s : List Int) : rwL l ++ [[.l true (byL s)]] = rwL (l ++ [s]) := by simp [rwL]
set_option maxHeartbeats 8000000 in
theorem stepS12 (N d : Nat) (k : SL → OB → Option R) (xs r r' : List (List PV)) (f : List Int) (hf : f.length ≤ 4294967296) (hm : xs.length ≤ 1000) (hw : allW 1 xs = true) :
    m12r0 (sem tab N (d + 1)) N [] (fun ob => normK k hdSf slSf ob) slSf ((12, .l false r') :: (11, .l false (byL f)) :: slSf) (obSf xs r xs.length) = k slSf (obSf (xs ++ [[.l true (byL f)]]) r' (xs ++ [[PV.l true (byL f)]]).length) := by
  have h26 := L39 N d f hf
  have l1 : xs.length + 1 ≤ 4294967296 := by omega
  have l2 : ¬ xs.length + 1 ≤ xs.length := by omega
  have t1 : List.take xs.length xs = xs := List.take_length
  have fl := byL_len f
  have tf : List.take f.length (byL f) = byL f := List.take_of_length_le (by omega)
  have el : (xs ++ [[PV.l true (byL f)]]).length = xs.length + 1 := by simp
  have te : List.take (xs.length + 1) (xs ++ [[PV.l true (byL f)]]) = xs ++ [[PV.l true (byL f)]] := List.take_of_length_le (by simp)
  generalize byL f = y at *
  generalize f.length = m at *
  simp only [slSf, obSf, hdSf, row] at *
  simp -implicitDefEqProofs (maxSteps := 1000000) (disch := first | omega | rfl) [m12r0, h26, l1, l2, t1, fl, tf, el, te, hw, bldP, bldS, bldU, bldQ, purEls, purC, puris, puriC, puri, frzX, flatEls, flats, flat, allW, k_dis, delS, delO, box, KZ, KY, KF, KS, getS, getO, gS, zipN, dropW, takeW, wds, stvs, sea, seaL, refs, refsL, refsEls, refsO, isPureEls, isPures, isPure, noExt, noExts, noExtEls, cellsL, ren, renL, renEls, keepO, keepS, keysO, refsS, refsOB, headC, setS, boxO, row, putW, putB, putB1, eNl, newOs, frz, renO, noExtO, zps, zp, two32, w64, -getElem?_pos, k_cnt, k_cnt0]
def outSf (l : List (List Int)) (r : List Int) : Option R := some (.tup [.sl 0 0 0 l.length, .sl 1 0 0 r.length], [row (rwL l) 1 true, row (byL r) 1 true])
set_option maxHeartbeats 8000000 in
theorem endS12 (N d : Nat) (l : List (List Int)) (r : List Int) (hr : r.length ≤ 4294967296) : m12e1 (sem tab N (d + 1)) N [] slSf (obSf (rwL l) (byL r) l.length) = outSf l r := by
  have h26 := L39 N d r hr
  have ll := rwL_len l
  have tl : List.take l.length (rwL l) = rwL l := List.take_of_length_le (by omega)
  have rl := byL_len r
  have tr := take_put r
  simp only [slSf, obSf, outSf, row] at *
  generalize rwL l = a at *
  generalize byL r = b at *
  generalize l.length = n at *
  generalize r.length = m at *
  simp -implicitDefEqProofs (maxSteps := 1000000) (disch := first | omega | rfl) [m12e1, h26, ll, tl, rl, tr, box, KZ, KY, KF, KS, getS, getO, gS, zipN, dropW, takeW, wds, stvs, sea, seaL, refs, refsL, refsEls, refsO, isPureEls, isPures, isPure, noExt, noExts, noExtEls, cellsL, ren, renL, renEls, keepO, keepS, keysO, refsS, refsOB, headC, setS, boxO, row, putW, putB, putB1, eNl, newOs, frz, renO, noExtO, zps, zp, two32, w64, -getElem?_pos, k_cnt, k_cnt0]
/-- What is left behind the last. -/
def restL (b : List Int) : List (List Int × List Int) → List Int
  | [] => b
  | s :: r => restL s.2 r
theorem rounds12 (N d : Nat) : ∀ (ss : List (List Int × List Int)) (l : List (List Int)) (b : List Int), (∀ s ∈ ss, s.1.length ≤ 100000 ∧ s.2.length ≤ 100000) → b.length ≤ 100000 → l.length + ss.length ≤ 1000 →
    rounds' (m12r0 (sem tab N (d + 1)) N []) [11, 12] hdSf (m12e1 (sem tab N (d + 1)) N []) (stFL ss) slSf (obSf (rwL l) (byL b) l.length) = outSf (l ++ ss.map (·.1)) (restL b ss) := by
  intro ss
  induction ss with
  | nil =>
    intro l b _ hb _
    rw [show stFL [] = [] from rfl, k_rounds0, endS12 N d l b (by omega)]
    simp [restL]
  | cons s r ih =>
    intro l b ho hb hl
    simp only [List.length_cons] at hl
    have h0 := ho s (by simp)
    rw [show stFL (s :: r) = [.l false (byL s.1), .l false (byL s.2)] :: stFL r from rfl, k_rounds1, if_pos (by rfl), show zipS [11, 12] [PV.l false (byL s.1), PV.l false (byL s.2)] slSf = (12, .l false (byL s.2)) :: (11, .l false (byL s.1)) :: slSf from rfl]
    have h1 := stepS12 N d (rounds' (m12r0 (sem tab N (d + 1)) N []) [11, 12] hdSf (m12e1 (sem tab N (d + 1)) N []) (stFL r)) (rwL l) (byL b) (byL s.2) s.1 (by omega) (by rw [rwL_len]; omega) (allW_rw l)
    rw [rwL_len] at h1
    rw [h1, rwL_app, rwL_len, ih (l ++ [s.1]) s.2 (fun t ht => ho t (by simp [ht])) h0.2 (by simp; omega)]
    simp [restL]
theorem frames_ok : ∀ (k : Nat) (b : List Int), (∀ s ∈ framesL k b, s.1.length ≤ b.length ∧ s.2.length ≤ b.length) ∧ (framesL k b).length ≤ k
  | 0, b => ⟨fun s h => by simp [framesL] at h, Nat.le_refl _⟩
  | k + 1, b => by
    unfold framesL
    split
    · exact ⟨fun s h => by simp at h, by simp⟩
    · obtain ⟨h1, h2⟩ := frames_ok k (b.drop (longF b).toNat)
      refine ⟨fun s hs => ?_, by simpa using h2⟩
      rcases List.mem_cons.1 hs with rfl | hs
      · simp only [List.length_take, List.length_drop]; omega
      · have := h1 s hs
        rw [List.length_drop] at this; omega
theorem frames_split : ∀ (k : Nat) (b : List Int), (framesL k b).map (·.1) = (splitN k b).1 ∧ restL b (framesL k b) = (splitN k b).2
  | 0, b => ⟨rfl, rfl⟩
  | k + 1, b => by
    unfold framesL splitN
    split
    · exact ⟨rfl, rfl⟩
    · obtain ⟨h1, h2⟩ := frames_split k (b.drop (longF b).toNat)
      exact ⟨by simp only [List.map_cons, h1], h2⟩
set_option maxHeartbeats 8000000 in
/-- The frames of bytes, and what is left. -/
theorem V12 (M d : Nat) (b : List Int) (hb : b.length ≤ 990) (hr : ∀ x ∈ b, 0 ≤ x ∧ x ≤ 255) : sem tab (M + 1000) (d + 5) 12 [.l false (byL b)] [] = outSf (splitN b.length b).1 (splitN b.length b).2 := by
  rw [sem_succ tab (M + 1000) (d + 4) 12 m12 rfl]
  have h25 := V25f (M + 1000) (d + 3) (byL b)
  have h39 := V39f M d b hb hr
  obtain ⟨f1, f2⟩ := frames_ok b.length b
  have hR := rounds12 (M + 1000) (d + 3) (framesL b.length b) [] b (fun s hs => by have := f1 s hs; omega) (by omega) (by simp; omega)
  rw [List.nil_append, (frames_split b.length b).1, (frames_split b.length b).2] at hR
  generalize outSf (splitN b.length b).1 (splitN b.length b).2 = res at *
  generalize stFL (framesL b.length b) = a at *
  have rg := rgF_frames (sem tab (M + 1000) (d + 4)) [(144, box [.l false (byL b)] 1), (104, box [.l false (byL b)] 1), (104, box [.e true] 1), (96, box [.e true] 1)] 144 (byL b) a rfl rfl rfl (by decide) (by decide) (by decide) (by simp [delO, refsOB, refsO, box, refsEls, refsL, refs, rp, rq]) h39
  simp only [slSf, obSf, hdSf, row] at hR
  rw [show rwL [] = [] from rfl] at hR
  simp only [List.length_nil] at hR
  generalize byL b = y at *
  simp only [box] at rg hR h25
  simp -implicitDefEqProofs (maxSteps := 1000000) (disch := first | omega | rfl) [m12, h25, rg, k_rgO, hR, delS, delO, rp, rq, box, KZ, KY, KF, KS, getS, getO, gS, zipN, dropW, takeW, wds, stvs, sea, seaL, refs, refsL, refsEls, refsO, isPureEls, isPures, isPure, noExt, noExts, noExtEls, cellsL, ren, renL, renEls, keepO, keepS, keysO, refsS, refsOB, headC, setS, boxO, row, putW, putB, putB1, eNl, newOs, frz, renO, noExtO, zps, zp, two32, w64, -getElem?_pos, k_cnt, k_cnt0]
end
section
attribute [local congr] bnd_cg bndO_cg br_cg
theorem rwL_get (xs : List (List Int)) (i : Nat) (x : List Int) (h : xs[i]? = some x) : (rwL xs)[i]? = some [.l true (byL x)] := by
  simp only [rwL, List.getElem?_map, h]; rfl
theorem step13 (Φ : Sem') (N : Nat) (g : SL → OB → Option R) (xs : List (List Int)) (i : Nat) (x : List Int) (h : xs[i]? = some x) (hn : xs.length ≤ 1000) :
    m13b0 Φ N [] g [(0, .l false (rwL xs)), (1, .l false (rwL xs)), (5, .i .i64 i)] [] = g [(0, .l false (rwL xs)), (1, .l false (rwL xs)), (5, .i .i64 (i + 1 : Nat))] [] := by
  have hi : i < xs.length := (List.getElem?_eq_some_iff.1 h).1
  have hg := rwL_get xs i x h
  have hl := rwL_len xs
  have w := w64n (i := i) (by omega)
  have hb := unB_by x
  have c : (i : Int) < ((rwL xs).length : Int) := by omega
  generalize rwL xs = a at *
  generalize byL x = b at *
  generalize chars x = s at *
  simp -implicitDefEqProofs (maxSteps := 1000000) (disch := first | omega | rfl) [m13b0, hg, w, hb, c, KF, KS, getS, getO, gS, zipN, dropW, takeW, wds, stvs, sea, seaL, refs, refsL, refsEls, refsO, isPureEls, isPures, isPure, noExt, noExts, noExtEls, cellsL, ren, renL, renEls, keepO, keepS, keysO, refsS, refsOB, headC, setS, boxO, row, putW, putB, putB1, eNl, newOs, frz, renO, noExtO, zps, zp, two32, w64, -getElem?_pos, k_cnt, k_cnt0]
theorem end13 (Φ : Sem') (N : Nat) (g : SL → OB → Option R) (xs : List (List Int)) :
    m13b0 Φ N [] g [(0, .l false (rwL xs)), (1, .l false (rwL xs)), (5, .i .i64 xs.length)] [] = some (.b true, []) := by
  have hl := rwL_len xs
  rw [← hl]
  generalize rwL xs = a at *
  have c : ¬ ((a.length : Int) < (a.length : Int)) := by omega
  simp -implicitDefEqProofs (maxSteps := 1000000) (disch := first | omega | rfl) [m13b0, c, KF, KS, getS, getO, gS, zipN, dropW, takeW, wds, stvs, sea, seaL, refs, refsL, refsEls, refsO, isPureEls, isPures, isPure, noExt, noExts, noExtEls, cellsL, ren, renL, renEls, keepO, keepS, keysO, refsS, refsOB, headC, setS, boxO, row, putW, putB, putB1, eNl, newOs, frz, renO, noExtO, zps, zp, two32, w64, -getElem?_pos, k_cnt, k_cnt0]
theorem loop13 (Φ : Sem') (N : Nat) (xs : List (List Int)) (hn : xs.length ≤ 1000) : ∀ (j i e : Nat), i + j = xs.length →
    loopC (m13b0 Φ N []) (e + 1 + j) [(0, .l false (rwL xs)), (1, .l false (rwL xs)), (5, .i .i64 i)] [] = some (.b true, []) := by
  intro j
  induction j with
  | zero =>
    intro i e h
    have : i = xs.length := by omega
    subst this
    rw [Nat.add_zero, k_loop, end13]
  | succ j ih =>
    intro i e h
    have hi : i < xs.length := by omega
    rw [← Nat.add_assoc, k_loop, step13 Φ N _ xs i xs[i] (by simp [hi]) hn, ih (i + 1) e (by omega)]
/-- Two rows that are the same. -/
theorem V13e (M d : Nat) (xs : List (List Int)) (hn : xs.length ≤ 990) : sem tab (M + 1000) (d + 1) 13 [.l false (rwL xs), .l false (rwL xs)] [] = some (.b true, []) := by
  rw [sem_succ tab (M + 1000) d 13 m13 rfl]
  have h := loop13 (sem tab (M + 1000) d) (M + 1000) xs (by omega) xs.length 0 (M + 999 - xs.length) (by omega)
  rw [show M + 999 - xs.length + 1 + xs.length = M + 1000 by omega, k_loop] at h
  generalize rwL xs = a at *
  have c : ((a.length : Int) != (a.length : Int)) = false := by simp
  simp -implicitDefEqProofs (maxSteps := 1000000) (disch := first | omega | rfl) [m13, h, c, KF, KS, getS, getO, gS, zipN, dropW, takeW, wds, stvs, sea, seaL, refs, refsL, refsEls, refsO, isPureEls, isPures, isPure, noExt, noExts, noExtEls, cellsL, ren, renL, renEls, keepO, keepS, keysO, refsS, refsOB, headC, setS, boxO, row, putW, putB, putB1, eNl, newOs, frz, renO, noExtO, zps, zp, two32, w64, -getElem?_pos, k_cnt, k_cnt0]
  exact h
end
section
attribute [local congr] bnd_cg bndO_cg br_cg
theorem tagd_kind {k : Int} (h : tagdF k = true) : 2 ≤ k ∧ k ≤ 5 := by
  unfold tagdF inB at h
  rw [Bool.and_eq_true, decide_eq_true_eq, decide_eq_true_eq] at h
  exact h
theorem R53_0 (N d : Nat) (a2 a3 a4 a5 a6 a7 a8 : Int) (a9 : List Int) : sem tab N (d + 1) 30 [.agg (frC ⟨0, a2, a3, a4, a5, a6, a7, a8, a9⟩)] [] = some (.tup [.sl 0 0 0 2, .b false], [row (nuL [(IntKind.u64.wrap a2, 1), (a4, 8)]) 2 true]) := by
  kernel_rfl
theorem R53_1 (N d : Nat) (a2 a3 a4 a5 a6 a7 a8 : Int) (a9 : List Int) : sem tab N (d + 1) 30 [.agg (frC ⟨1, a2, a3, a4, a5, a6, a7, a8, a9⟩)] [] = some (.tup [.sl 0 0 0 2, .b false], [row (nuL [(a3, 8), (IntKind.u64.wrap a5, 4)]) 2 true]) := by
  kernel_rfl
theorem R53_2 (N d : Nat) (a2 a3 a4 a5 a6 a7 a8 : Int) (a9 : List Int) : sem tab N (d + 1) 30 [.agg (frC ⟨2, a2, a3, a4, a5, a6, a7, a8, a9⟩)] [] = some (.tup [.sl 0 0 0 1, .b true], [row (nuL [(a3, 8)]) 2 true]) := by
  kernel_rfl
theorem R53_3 (N d : Nat) (a2 a3 a4 a5 a6 a7 a8 : Int) (a9 : List Int) : sem tab N (d + 1) 30 [.agg (frC ⟨3, a2, a3, a4, a5, a6, a7, a8, a9⟩)] [] = some (.tup [.sl 0 0 0 1, .b true], [row (nuL [(a3, 8)]) 2 true]) := by
  kernel_rfl
theorem R53_4 (N d : Nat) (a2 a3 a4 a5 a6 a7 a8 : Int) (a9 : List Int) : sem tab N (d + 1) 30 [.agg (frC ⟨4, a2, a3, a4, a5, a6, a7, a8, a9⟩)] [] = some (.tup [.sl 0 0 0 4, .b true], [row (nuL [(a3, 8), (a6, 8), (IntKind.u64.wrap a7, 1), (IntKind.u64.wrap a8, 2)]) 2 true]) := by
  kernel_rfl
theorem R53_5 (N d : Nat) (a2 a3 a4 a5 a6 a7 a8 : Int) (a9 : List Int) : sem tab N (d + 1) 30 [.agg (frC ⟨5, a2, a3, a4, a5, a6, a7, a8, a9⟩)] [] = some (.tup [.sl 0 0 0 4, .b true], [row (nuL [(a3, 8), (a6, 8), (IntKind.u64.wrap a7, 1), (IntKind.u64.wrap a8, 2)]) 2 true]) := by
  kernel_rfl
theorem R53_6 (N d : Nat) (a2 a3 a4 a5 a6 a7 a8 : Int) (a9 : List Int) : sem tab N (d + 1) 30 [.agg (frC ⟨6, a2, a3, a4, a5, a6, a7, a8, a9⟩)] [] = some (.tup [.sl 0 0 0 1, .b false], [row (nuL [(IntKind.u64.wrap a7, 1)]) 2 true]) := by
  kernel_rfl
/-- The frame's numbers lie in their bounds. -/
structure BdF (f : Fra) : Prop where
  kind : inB f.kind 0 6 = true
  user : 0 ≤ f.user ∧ f.user ≤ 255
  epoch : 0 ≤ f.epoch ∧ f.epoch ≤ 1073741824
  cmd : 0 ≤ f.cmd ∧ f.cmd ≤ 255
  arg : 0 ≤ f.arg ∧ f.arg ≤ 65535
theorem R53 (N d : Nat) (f : Fra) (h : BdF f) : sem tab N (d + 1) 30 [.agg (frC f)] [] = some (.tup [.sl 0 0 0 (numsF f).length, .b (tagdF f.kind)], [row (nuL (numsF f)) 2 true]) := by
  have hk := kinds h.kind
  obtain ⟨_, h2, h3, h4, h5⟩ := h
  obtain ⟨a1, a2, a3, a4, a5, a6, a7, a8, a9⟩ := f
  simp only at hk h2 h3 h4 h5
  have u2 := wu64 h2.1 (by omega)
  have u3 := wu64 h3.1 (by omega)
  have u4 := wu64 h4.1 (by omega)
  have u5 := wu64 h5.1 (by omega)
  rcases hk with e | e | e | e | e | e | e <;> subst e
  · rw [R53_0, u2]; rfl
  · rw [R53_1, u3]; rfl
  · rw [R53_2]; rfl
  · rw [R53_3]; rfl
  · rw [R53_4, u4, u5]; rfl
  · rw [R53_5, u4, u5]; rfl
  · rw [R53_6, u4]; rfl
/-- What is made of numbers. -/
def u64L (l : List Int) : List (List PV) := l.map fun n => [.i .u64 n]
theorem R54_0 (N d : Nat) (x y : Int) : sem tab N (d + 1) 32 [.i .i64 0, .l false (u64L [x, y])] [] = some (.agg (frC ⟨0, IntKind.i64.wrap x, 0, y, 0, 0, 0, 0, z32⟩), []) := by
  kernel_rfl
theorem R54_1 (N d : Nat) (x y : Int) : sem tab N (d + 1) 32 [.i .i64 1, .l false (u64L [x, y])] [] = some (.agg (frC ⟨1, 0, x, 0, IntKind.i64.wrap y, 0, 0, 0, z32⟩), []) := by
  kernel_rfl
theorem R54_2 (N d : Nat) (x : Int) : sem tab N (d + 1) 32 [.i .i64 2, .l false (u64L [x])] [] = some (.agg (frC ⟨2, 0, x, 0, 0, 0, 0, 0, z32⟩), []) := by
  kernel_rfl
theorem R54_3 (N d : Nat) (x : Int) : sem tab N (d + 1) 32 [.i .i64 3, .l false (u64L [x])] [] = some (.agg (frC ⟨3, 0, x, 0, 0, 0, 0, 0, z32⟩), []) := by
  kernel_rfl
theorem R54_4 (N d : Nat) (x y z w : Int) : sem tab N (d + 1) 32 [.i .i64 4, .l false (u64L [x, y, z, w])] [] = some (.agg (frC ⟨4, 0, x, 0, 0, y, IntKind.i64.wrap z, IntKind.i64.wrap w, z32⟩), []) := by
  kernel_rfl
theorem R54_5 (N d : Nat) (x y z w : Int) : sem tab N (d + 1) 32 [.i .i64 5, .l false (u64L [x, y, z, w])] [] = some (.agg (frC ⟨5, 0, x, 0, 0, y, IntKind.i64.wrap z, IntKind.i64.wrap w, z32⟩), []) := by
  kernel_rfl
theorem R54_6 (N d : Nat) (x : Int) : sem tab N (d + 1) 32 [.i .i64 6, .l false (u64L [x])] [] = some (.agg (frC ⟨6, 0, 0, 0, 0, 0, IntKind.i64.wrap x, 0, z32⟩), []) := by
  kernel_rfl
def bareU (f : Fra) : Fra := { bareF f with tag := z32 }
theorem wi64 {n : Int} (h0 : 0 ≤ n) (h1 : n ≤ 1073741824) : IntKind.i64.wrap n = n := by rw [IntKind.wrap_i64]; omega
/-- What is made of a frame's numbers: its bare form, without the tag. -/
theorem R54 (N d : Nat) (f : Fra) (h : BdF f) : sem tab N (d + 1) 32 [.i .i64 f.kind, .l false (u64L ((numsF f).map (·.1)))] [] = some (.agg (frC (bareU f)), []) := by
  have hk := kinds h.kind
  obtain ⟨_, h2, h3, h4, h5⟩ := h
  obtain ⟨a1, a2, a3, a4, a5, a6, a7, a8, a9⟩ := f
  simp only at hk h2 h3 h4 h5
  have u2 := wi64 h2.1 (by omega)
  have u3 := wi64 h3.1 (by omega)
  have u4 := wi64 h4.1 (by omega)
  have u5 := wi64 h5.1 (by omega)
  rcases hk with e | e | e | e | e | e | e <;> subst e
  · have := R54_0 N d a2 a4; rw [u2] at this; exact this
  · have := R54_1 N d a3 a5; rw [u3] at this; exact this
  · exact R54_2 N d a3
  · exact R54_3 N d a3
  · have := R54_4 N d a3 a6 a7 a8; rw [u4, u5] at this; exact this
  · have := R54_5 N d a3 a6 a7 a8; rw [u4, u5] at this; exact this
  · have := R54_6 N d a7; rw [u4] at this; exact this
def sl44 (t : Bool) (n i : Nat) : SL := [(1, .p 72 0 0 0 none), (3, .sl 528 0 0 n), (4, .b t), (5, .sl 111 0 0 i), (6, .i .i64 i)]
def ob44 (f : Fra) (l : List (Int × Nat)) (r : List Int) : OB := [(111, row (u64L r) 1 true), (72, fbox f), (528, row (nuL l) 2 true)]
theorem L44_1 (Φ : Sem') (N M : Nat) (t : Bool) (f : Fra) (x : Int) (k : Nat) : m27b0 Φ N [] (loopC (m27b0 Φ N []) (M + 1)) (sl44 t 1 0) (ob44 f [(x, k)] []) = m27b0 Φ N [] (loopC (m27b0 Φ N []) M) (sl44 t 1 1) (ob44 f [(x, k)] [x]) := by
  kernel_rfl
theorem L44_2 (Φ : Sem') (N M : Nat) (t : Bool) (f : Fra) (x y : Int) (k l : Nat) : m27b0 Φ N [] (loopC (m27b0 Φ N []) (M + 2)) (sl44 t 2 0) (ob44 f [(x, k), (y, l)] []) = m27b0 Φ N [] (loopC (m27b0 Φ N []) M) (sl44 t 2 2) (ob44 f [(x, k), (y, l)] [x, y]) := by
  kernel_rfl
theorem L44_4 (Φ : Sem') (N M : Nat) (t : Bool) (f : Fra) (x y z w : Int) (k l m n : Nat) : m27b0 Φ N [] (loopC (m27b0 Φ N []) (M + 4)) (sl44 t 4 0) (ob44 f [(x, k), (y, l), (z, m), (w, n)] []) = m27b0 Φ N [] (loopC (m27b0 Φ N []) M) (sl44 t 4 4) (ob44 f [(x, k), (y, l), (z, m), (w, n)] [x, y, z, w]) := by
  kernel_rfl
theorem lp44 (Φ : Sem') (N M : Nat) (t : Bool) (f : Fra) : ∃ M', m27b0 Φ N [] (loopC (m27b0 Φ N []) (M + 4)) (sl44 t (numsF f).length 0) (ob44 f (numsF f) []) = m27b0 Φ N [] (loopC (m27b0 Φ N []) M') (sl44 t (numsF f).length (numsF f).length) (ob44 f (numsF f) ((numsF f).map (·.1))) := by
  unfold numsF
  repeat' split
  · exact ⟨_, L44_2 Φ N (M + 2) t f _ _ _ _⟩
  · exact ⟨_, L44_2 Φ N (M + 2) t f _ _ _ _⟩
  · exact ⟨_, L44_1 Φ N (M + 3) t f _ _⟩
  · exact ⟨_, L44_1 Φ N (M + 3) t f _ _⟩
  · exact ⟨_, L44_4 Φ N M t f _ _ _ _ _ _ _ _⟩
  · exact ⟨_, L44_4 Φ N M t f _ _ _ _ _ _ _ _⟩
  · exact ⟨_, L44_1 Φ N (M + 3) t f _ _⟩
theorem u64L_len (l : List Int) : (u64L l).length = l.length := by simp [u64L]
theorem bare_tagged (f : Fra) (h : tagdF f.kind = true) : ({ bareU f with tag := f.tag } : Fra) = bareF f := by
  have h := tagd_kind h
  obtain ⟨a1, a2, a3, a4, a5, a6, a7, a8, a9⟩ := f
  simp only at h
  have hk : a1 = 2 ∨ a1 = 3 ∨ a1 = 4 ∨ a1 = 5 := by omega
  rcases hk with e | e | e | e <;> subst e <;> rfl
theorem bare_not (f : Fra) (hk : inB f.kind 0 6 = true) (h : tagdF f.kind = false) : bareU f = bareF f := by
  have hk := kinds hk
  obtain ⟨a1, a2, a3, a4, a5, a6, a7, a8, a9⟩ := f
  simp only at h hk
  rcases hk with e | e | e | e | e | e | e <;> subst e <;> first | rfl | (exact absurd h (by decide))
theorem bareU_tag (f : Fra) : (bareU f).tag = z32 := rfl
set_option maxHeartbeats 8000000 in
theorem end44 (N d : Nat) (g : SL → OB → Option R) (f : Fra) (h : BdF f) (o : okF f) : m27b0 (sem tab N (d + 1)) N [] g (sl44 (tagdF f.kind) (numsF f).length (numsF f).length) (ob44 f (numsF f) ((numsF f).map (·.1))) = some (.b (eqFr (bareF f) f), []) := by
  have h54 := R54 N d f h
  have hl := u64L_len ((numsF f).map (·.1))
  rw [List.length_map] at hl
  have ht : List.take (numsF f).length (u64L ((numsF f).map (·.1))) = u64L ((numsF f).map (·.1)) := List.take_of_length_le (by omega)
  have zl2 : (uL z32).length = 32 := by rw [uL_len]; rfl
  have fl : (uL f.tag).length = 32 := by rw [uL_len, o.tag]
  have hu' := uz32.symm
  have ut := bareU_tag f
  unfold sl44 ob44
  generalize u64L ((numsF f).map (·.1)) = r at *
  generalize nuL (numsF f) = s at *
  generalize (numsF f).length = n at *
  cases t : tagdF f.kind
  · have es := eSt_frn false (bareU f) f (by rw [ut]; rfl) o.tag
    rw [bare_not f h.kind t] at es h54 ut
    have bt := bareF_tag f o.tag
    generalize eqFr (bareF f) f = e at *
    generalize bareF f = b at *
    obtain ⟨b1, b2, b3, b4, b5, b6, b7, b8, b9⟩ := b
    obtain ⟨a1, a2, a3, a4, a5, a6, a7, a8, a9⟩ := f
    simp only [fbox, box, frC, row] at *
    subst ut
    generalize uL a9 = q at *
    generalize uL z32 = z at *
    simp -implicitDefEqProofs (maxSteps := 1000000) (disch := first | omega | rfl) [m27b0, h54, hl, ht, es, zl2, fl, hu', -List.reduceReplicate, boxO, KVl, KF, KS, getS, getO, gS, zipN, dropW, takeW, wds, stvs, sea, seaL, refs, refsL, refsEls, refsO, isPureEls, isPures, isPure, noExt, noExts, noExtEls, cellsL, ren, renL, renEls, keepO, keepS, keysO, refsS, refsOB, headC, setS, boxO, row, putW, putB, putB1, eNl, newOs, frz, renO, noExtO, zps, zp, two32, w64, -getElem?_pos, k_cnt, k_cnt0]
  · have es := eSt_frn false ({ bareU f with tag := f.tag } : Fra) f o.tag o.tag
    rw [bare_tagged f t] at es
    have e2 : frC (bareF f) = frC ({ bareU f with tag := f.tag } : Fra) := by rw [bare_tagged f t]
    rw [e2] at es
    clear e2
    generalize eqFr (bareF f) f = e at *
    generalize bareU f = b at *
    obtain ⟨b1, b2, b3, b4, b5, b6, b7, b8, b9⟩ := b
    obtain ⟨a1, a2, a3, a4, a5, a6, a7, a8, a9⟩ := f
    simp only [fbox, box, frC, row] at *
    subst ut
    generalize uL a9 = q at *
    generalize uL z32 = z at *
    simp -implicitDefEqProofs (maxSteps := 1000000) (disch := first | omega | rfl) [m27b0, h54, hl, ht, es, zl2, fl, hu', -List.reduceReplicate, boxO, KVl, KF, KS, getS, getO, gS, zipN, dropW, takeW, wds, stvs, sea, seaL, refs, refsL, refsEls, refsO, isPureEls, isPures, isPure, noExt, noExts, noExtEls, cellsL, ren, renL, renEls, keepO, keepS, keysO, refsS, refsOB, headC, setS, boxO, row, putW, putB, putB1, eNl, newOs, frz, renO, noExtO, zps, zp, two32, w64, -getElem?_pos, k_cnt, k_cnt0]
set_option maxHeartbeats 8000000 in
theorem st44 (Φ : Sem') (N : Nat) (f : Fra) (h : BdF f) (t : Bool) (n : Nat) (l : List (List PV)) (hl : l.length = n) (H : Φ 30 [.agg (frC f)] [] = some (.tup [.sl 0 0 0 n, .b t], [row l 2 true])) : m27 Φ (N + 1) [.agg (frC f)] [] = m27b0 Φ (N + 1) [] (loopC (m27b0 Φ (N + 1) []) N) (sl44 t n 0) [(111, row (u64L []) 1 true), (72, fbox f), (528, row l 2 true)] := by
  have hk := kinds h.kind
  obtain ⟨_, p2, p3, p4, p5⟩ := h
  obtain ⟨a1, a2, a3, a4, a5, a6, a7, a8, a9⟩ := f
  simp only at p2 p3 p4 p5 hk
  have c1 : ¬ a1 < 0 := by omega
  have c2 : ¬ a1 ≥ 7 := by omega
  have c3 : ¬ a2 < 0 := by omega
  have c4 : ¬ a2 > 255 := by omega
  have c5 : ¬ a5 < 0 := by omega
  have c6 : ¬ a5 > 1073741824 := by omega
  have c7 : ¬ a7 < 0 := by omega
  have c8 : ¬ a7 > 255 := by omega
  have c9 : ¬ a8 < 0 := by omega
  have ca : ¬ a8 > 65535 := by omega
  simp only [sl44, fbox, box, frC, row, u64L, List.map_nil] at *
  generalize uL a9 = q at *
  simp -implicitDefEqProofs (maxSteps := 1000000) (disch := first | omega | rfl) [m27, H, hl, c1, c2, c3, c4, c5, c6, c7, c8, c9, ca, boxO, KVl, KF, KS, getS, getO, gS, zipN, dropW, takeW, wds, stvs, sea, seaL, refs, refsL, refsEls, refsO, isPureEls, isPures, isPure, noExt, noExts, noExtEls, cellsL, ren, renL, renEls, keepO, keepS, keysO, refsS, refsOB, headC, setS, boxO, row, putW, putB, putB1, eNl, newOs, frz, renO, noExtO, zps, zp, two32, w64, -getElem?_pos, k_cnt, k_cnt0]
theorem pl_bd {f : Fra} (h : PlF f) : BdF f := ⟨h.kind, h.user, h.epoch, h.cmd, h.arg⟩
set_option maxHeartbeats 16000000 in
theorem out44 (Φ : Sem') (N : Nat) (f : Fra) (h : ¬ BdF f) : m27 Φ N [.agg (frC f)] [] = some (.b false, []) := by
  obtain ⟨a1, a2, a3, a4, a5, a6, a7, a8, a9⟩ := f
  simp only [frC]
  generalize uL a9 = q
  by_cases c0 : a1 < 0
  · clear h
    simp -implicitDefEqProofs (maxSteps := 1000000) (disch := first | omega | rfl) [m27, c0, boxO, KVl, KF, KS, getS, getO, gS, zipN, dropW, takeW, wds, stvs, sea, seaL, refs, refsL, refsEls, refsO, isPureEls, isPures, isPure, noExt, noExts, noExtEls, cellsL, ren, renL, renEls, keepO, keepS, keysO, refsS, refsOB, headC, setS, boxO, row, putW, putB, putB1, eNl, newOs, frz, renO, noExtO, zps, zp, two32, w64, -getElem?_pos, k_cnt, k_cnt0]
  by_cases c1 : a1 ≥ 7
  · clear h
    simp -implicitDefEqProofs (maxSteps := 1000000) (disch := first | omega | rfl) [m27, c0, c1, boxO, KVl, KF, KS, getS, getO, gS, zipN, dropW, takeW, wds, stvs, sea, seaL, refs, refsL, refsEls, refsO, isPureEls, isPures, isPure, noExt, noExts, noExtEls, cellsL, ren, renL, renEls, keepO, keepS, keysO, refsS, refsOB, headC, setS, boxO, row, putW, putB, putB1, eNl, newOs, frz, renO, noExtO, zps, zp, two32, w64, -getElem?_pos, k_cnt, k_cnt0]
  by_cases c2 : a2 < 0
  · clear h
    simp -implicitDefEqProofs (maxSteps := 1000000) (disch := first | omega | rfl) [m27, c0, c1, c2, boxO, KVl, KF, KS, getS, getO, gS, zipN, dropW, takeW, wds, stvs, sea, seaL, refs, refsL, refsEls, refsO, isPureEls, isPures, isPure, noExt, noExts, noExtEls, cellsL, ren, renL, renEls, keepO, keepS, keysO, refsS, refsOB, headC, setS, boxO, row, putW, putB, putB1, eNl, newOs, frz, renO, noExtO, zps, zp, two32, w64, -getElem?_pos, k_cnt, k_cnt0]
  by_cases c3 : a2 > 255
  · clear h
    simp -implicitDefEqProofs (maxSteps := 1000000) (disch := first | omega | rfl) [m27, c0, c1, c2, c3, boxO, KVl, KF, KS, getS, getO, gS, zipN, dropW, takeW, wds, stvs, sea, seaL, refs, refsL, refsEls, refsO, isPureEls, isPures, isPure, noExt, noExts, noExtEls, cellsL, ren, renL, renEls, keepO, keepS, keysO, refsS, refsOB, headC, setS, boxO, row, putW, putB, putB1, eNl, newOs, frz, renO, noExtO, zps, zp, two32, w64, -getElem?_pos, k_cnt, k_cnt0]
  by_cases c4 : a5 < 0
  · clear h
    simp -implicitDefEqProofs (maxSteps := 1000000) (disch := first | omega | rfl) [m27, c0, c1, c2, c3, c4, boxO, KVl, KF, KS, getS, getO, gS, zipN, dropW, takeW, wds, stvs, sea, seaL, refs, refsL, refsEls, refsO, isPureEls, isPures, isPure, noExt, noExts, noExtEls, cellsL, ren, renL, renEls, keepO, keepS, keysO, refsS, refsOB, headC, setS, boxO, row, putW, putB, putB1, eNl, newOs, frz, renO, noExtO, zps, zp, two32, w64, -getElem?_pos, k_cnt, k_cnt0]
  by_cases c5 : a5 > 1073741824
  · clear h
    simp -implicitDefEqProofs (maxSteps := 1000000) (disch := first | omega | rfl) [m27, c0, c1, c2, c3, c4, c5, boxO, KVl, KF, KS, getS, getO, gS, zipN, dropW, takeW, wds, stvs, sea, seaL, refs, refsL, refsEls, refsO, isPureEls, isPures, isPure, noExt, noExts, noExtEls, cellsL, ren, renL, renEls, keepO, keepS, keysO, refsS, refsOB, headC, setS, boxO, row, putW, putB, putB1, eNl, newOs, frz, renO, noExtO, zps, zp, two32, w64, -getElem?_pos, k_cnt, k_cnt0]
  by_cases c6 : a7 < 0
  · clear h
    simp -implicitDefEqProofs (maxSteps := 1000000) (disch := first | omega | rfl) [m27, c0, c1, c2, c3, c4, c5, c6, boxO, KVl, KF, KS, getS, getO, gS, zipN, dropW, takeW, wds, stvs, sea, seaL, refs, refsL, refsEls, refsO, isPureEls, isPures, isPure, noExt, noExts, noExtEls, cellsL, ren, renL, renEls, keepO, keepS, keysO, refsS, refsOB, headC, setS, boxO, row, putW, putB, putB1, eNl, newOs, frz, renO, noExtO, zps, zp, two32, w64, -getElem?_pos, k_cnt, k_cnt0]
  by_cases c7 : a7 > 255
  · clear h
    simp -implicitDefEqProofs (maxSteps := 1000000) (disch := first | omega | rfl) [m27, c0, c1, c2, c3, c4, c5, c6, c7, boxO, KVl, KF, KS, getS, getO, gS, zipN, dropW, takeW, wds, stvs, sea, seaL, refs, refsL, refsEls, refsO, isPureEls, isPures, isPure, noExt, noExts, noExtEls, cellsL, ren, renL, renEls, keepO, keepS, keysO, refsS, refsOB, headC, setS, boxO, row, putW, putB, putB1, eNl, newOs, frz, renO, noExtO, zps, zp, two32, w64, -getElem?_pos, k_cnt, k_cnt0]
  by_cases c8 : a8 < 0
  · clear h
    simp -implicitDefEqProofs (maxSteps := 1000000) (disch := first | omega | rfl) [m27, c0, c1, c2, c3, c4, c5, c6, c7, c8, boxO, KVl, KF, KS, getS, getO, gS, zipN, dropW, takeW, wds, stvs, sea, seaL, refs, refsL, refsEls, refsO, isPureEls, isPures, isPure, noExt, noExts, noExtEls, cellsL, ren, renL, renEls, keepO, keepS, keysO, refsS, refsOB, headC, setS, boxO, row, putW, putB, putB1, eNl, newOs, frz, renO, noExtO, zps, zp, two32, w64, -getElem?_pos, k_cnt, k_cnt0]
  by_cases c9 : a8 > 65535
  · clear h
    simp -implicitDefEqProofs (maxSteps := 1000000) (disch := first | omega | rfl) [m27, c0, c1, c2, c3, c4, c5, c6, c7, c8, c9, boxO, KVl, KF, KS, getS, getO, gS, zipN, dropW, takeW, wds, stvs, sea, seaL, refs, refsL, refsEls, refsO, isPureEls, isPures, isPure, noExt, noExts, noExtEls, cellsL, ren, renL, renEls, keepO, keepS, keysO, refsS, refsOB, headC, setS, boxO, row, putW, putB, putB1, eNl, newOs, frz, renO, noExtO, zps, zp, two32, w64, -getElem?_pos, k_cnt, k_cnt0]
  exact absurd ⟨by unfold inB; rw [Bool.and_eq_true, decide_eq_true_eq, decide_eq_true_eq]; simp only; omega, by simp only; omega, by simp only; omega, by simp only; omega, by simp only; omega⟩ h
theorem R44 (N d : Nat) (f : Fra) (o : okF f) : sem tab (N + 100) (d + 2) 27 [.agg (frC f)] [] = some (.b (plainF f), []) := by
  rw [sem_succ tab (N + 100) (d + 1) 27 m27 rfl]
  by_cases h : BdF f
  · have h53 := R53 (N + 100) d f h
    rw [st44 (sem tab (N + 100) (d + 1)) (N + 99) f h (tagdF f.kind) (numsF f).length (nuL (numsF f)) (by simp [nuL]) h53]
    obtain ⟨M', e⟩ := lp44 (sem tab (N + 100) (d + 1)) (N + 100) (N + 95) (tagdF f.kind) f
    refine Eq.trans e ?_
    rw [end44 (N + 100) d _ f h o]
    have hp : plainF f = eqFr (bareF f) f := by
      have i2 : inB f.user 0 255 = true := by unfold inB; rw [Bool.and_eq_true, decide_eq_true_eq, decide_eq_true_eq]; exact h.user
      have i3 : inB f.epoch 0 1073741824 = true := by unfold inB; rw [Bool.and_eq_true, decide_eq_true_eq, decide_eq_true_eq]; exact h.epoch
      have i4 : inB f.cmd 0 255 = true := by unfold inB; rw [Bool.and_eq_true, decide_eq_true_eq, decide_eq_true_eq]; exact h.cmd
      have i5 : inB f.arg 0 65535 = true := by unfold inB; rw [Bool.and_eq_true, decide_eq_true_eq, decide_eq_true_eq]; exact h.arg
      unfold plainF
      rw [h.kind, i2, i3, i4, i5]
      rfl
    rw [hp]
  · rw [out44 _ _ f h]
    cases hp : plainF f
    · rfl
    · exact absurd (pl_bd ((plainF_iff f).1 hp)) h
end
section
attribute [local congr] bnd_cg bndO_cg br_cg
theorem front_eq (f : Fra) (h : inB f.kind 0 6 = true) : frontF f = 0 :: (szF f.kind : Int) :: f.kind :: catB (numsF f) := by
  unfold frontF allF
  simp only [catB]
  have h1 : be 1 f.kind = [f.kind] := by
    rcases kinds h with e | e | e | e | e | e | e <;> rw [e] <;> rfl
  have h2 : be 2 (szF f.kind : Int) = [0, (szF f.kind : Int)] := by
    rcases kinds h with e | e | e | e | e | e | e <;> rw [e] <;> rfl
  rw [h1, h2]
  rfl
theorem sz_eq (f : Fra) (h : inB f.kind 0 6 = true) : szF f.kind = 1 + (catB (numsF f)).length + cond (tagdF f.kind) 32 0 := by
  have e := front_eq f h
  have l := frontF_len f
  rw [e] at l
  simp only [List.length_cons] at l
  rcases kinds h with e | e | e | e | e | e | e <;> rw [e] at l ⊢ <;> simp [aheadF, szF, tagdF, inB] at l ⊢ <;> omega
set_option maxHeartbeats 8000000 in
theorem R45 (N d : Nat) (f : Fra) (h : PlF f) (o : okF f) : sem tab (N + 100) (d + 4) 28 [.agg (frC f)] [] = some (.tup [.sl 0 0 0 (aheadF f.kind), .b (tagdF f.kind)], [row (byL (frontF f)) 1 true]) := by
  rw [sem_succ tab (N + 100) (d + 3) 28 m28 rfl]
  have h53 : sem tab (N + 100) (d + 3) 30 [.agg (frC f)] [] = _ := R53 (N + 100) (d + 2) f (pl_bd h)
  have hf := fitAll_allF f h o
  have ho := okNu_allF f h o
  have hf : fitAll (numsF f) = true := by
    unfold allF at hf
    simp only [fitAll, Bool.and_eq_true] at hf
    exact hf.2.2
  have h90 := U90c N d (numsF f) (by have := numsF_len f; omega) (fun x hx => ho x (by unfold allF; simp [hx]))
  rw [hf, cond_true] at h90
  have nl := nuL_len (numsF f)
  have nt : List.take (numsF f).length (nuL (numsF f)) = nuL (numsF f) := List.take_of_length_le (by omega)
  have sz := sz_eq f h.kind
  have ha := aheadF_le f.kind
  have fe := front_eq f h.kind
  have fl := frontF_len f
  have kr := kinds h.kind
  have hs := szF_le f.kind
  have bl := byL_len (catB (numsF f))
  have wt := allW_by (catB (numsF f))
  have ft := flat_by (catB (numsF f))
  have bt : List.take (catB (numsF f)).length (byL (catB (numsF f))) = byL (catB (numsF f)) := List.take_of_length_le (by omega)
  have ne : 1 ≤ (catB (numsF f)).length := by rw [fe] at fl; simp only [List.length_cons] at fl; omega
  have ls : (catB (numsF f)).length + 3 = aheadF f.kind := by rw [fe] at fl; simp only [List.length_cons] at fl; omega
  have w3 : IntKind.u8.wrap f.kind = f.kind := by rw [IntKind.wrap_u8]; omega
  have w4 : ∀ n : Int, 0 ≤ n ∧ n ≤ 255 → IntKind.u8.wrap n = n := fun n hn => by rw [IntKind.wrap_u8]; omega
  rw [fe]
  rw [show byL (0 :: (szF f.kind : Int) :: f.kind :: catB (numsF f)) = [.i .u8 0] :: [.i .u8 (szF f.kind : Int)] :: [.i .u8 f.kind] :: byL (catB (numsF f)) from rfl]
  rw [sz, ← ls]
  have w5 := w4 (1 + ((catB (numsF f)).length : Int)) (by omega)
  have w6 := w4 (1 + ((catB (numsF f)).length : Int) + 32) (by omega)
  have t2 : ∀ a b c : List PV, List.take ((catB (numsF f)).length + 3) (a :: b :: c :: byL (catB (numsF f))) = a :: b :: c :: byL (catB (numsF f)) := fun a b c => List.take_of_length_le (by simp [bl])
  clear sz fe fl hs w4
  generalize byL (catB (numsF f)) = y at *
  generalize (catB (numsF f)).length = m at *
  generalize nuL (numsF f) = s at *
  generalize (numsF f).length = n at *
  clear hf ho o h
  generalize tagdF f.kind = t at *
  obtain ⟨a1, a2, a3, a4, a5, a6, a7, a8, a9⟩ := f
  simp only [frC, row] at *
  generalize uL a9 = q at *
  have g1 : ¬ (3 + m ≤ 3) := by omega
  have g2 : 3 + m ≤ 4294967296 := by omega
  have g3 : m ≤ 22 := by omega
  have g4 : m ≠ 0 := by omega
  have g5 : m ≤ 4294967293 := by omega
  cases t <;>
  simp -implicitDefEqProofs (maxSteps := 1000000) (disch := first | omega | rfl) [m28, h53, h90, nl, nt, bl, bt, wt, ft, w3, w5, w6, t2, g1, g2, g3, g4, g5, Nat.add_comm 3 m, boxO, KVl, KF, KS, getS, getO, gS, zipN, dropW, takeW, wds, stvs, sea, seaL, refs, refsL, refsEls, refsO, isPureEls, isPures, isPure, noExt, noExts, noExtEls, cellsL, ren, renL, renEls, keepO, keepS, keysO, refsS, refsOB, headC, setS, boxO, row, putW, putB, putB1, eNl, newOs, frz, renO, noExtO, zps, zp, two32, w64, -getElem?_pos, k_cnt, k_cnt0]
set_option maxHeartbeats 8000000 in
/-- The bytes that its tag is of. -/
theorem R29 (N d : Nat) (f : Fra) (o : okF f) : sem tab (N + 100) (d + 5) 18 [.agg (frC f)] [] = cond (plainF f && tagdF f.kind) (some (.sl 0 0 0 (aheadF f.kind), [row (byL (frontF f)) 1 true])) (some (.sl 0 0 0 0, [row [] 1 true])) := by
  rw [sem_succ tab (N + 100) (d + 4) 18 m18 rfl]
  have h19 : sem tab (N + 100) (d + 4) 27 [.agg (frC f)] [] = _ := R44 N (d + 2) f o
  cases hp : plainF f
  · rw [hp] at h19
    obtain ⟨a1, a2, a3, a4, a5, a6, a7, a8, a9⟩ := f
    simp only [frC, cond_false, Bool.false_and, row] at h19 ⊢
    generalize uL a9 = q at *
    simp -implicitDefEqProofs (maxSteps := 1000000) (disch := first | omega | rfl) [m18, h19, boxO, KF, KS, getS, getO, gS, zipN, dropW, takeW, wds, stvs, sea, seaL, refs, refsL, refsEls, refsO, isPureEls, isPures, isPure, noExt, noExts, noExtEls, cellsL, ren, renL, renEls, keepO, keepS, keysO, refsS, refsOB, headC, setS, boxO, row, putW, putB, putB1, eNl, newOs, frz, renO, noExtO, zps, zp, two32, w64, -getElem?_pos, k_cnt, k_cnt0]
  · rw [hp] at h19
    have h20 := R45 N d f ((plainF_iff f).1 hp) o
    have hl := byL_len (frontF f)
    rw [frontF_len] at hl
    have t1 : List.take (aheadF f.kind) (byL (frontF f)) = byL (frontF f) := List.take_of_length_le (by omega)
    generalize byL (frontF f) = b at *
    generalize aheadF f.kind = n at *
    generalize tagdF f.kind = t at *
    obtain ⟨a1, a2, a3, a4, a5, a6, a7, a8, a9⟩ := f
    simp only [frC, row, Bool.true_and] at *
    generalize uL a9 = q at *
    cases t <;>
    simp -implicitDefEqProofs (maxSteps := 1000000) (disch := first | omega | rfl) [m18, h19, h20, hl, t1, boxO, KF, KS, getS, getO, gS, zipN, dropW, takeW, wds, stvs, sea, seaL, refs, refsL, refsEls, refsO, isPureEls, isPures, isPure, noExt, noExts, noExtEls, cellsL, ren, renL, renEls, keepO, keepS, keysO, refsS, refsOB, headC, setS, boxO, row, putW, putB, putB1, eNl, newOs, frz, renO, noExtO, zps, zp, two32, w64, -getElem?_pos, k_cnt, k_cnt0]
end
section
attribute [local congr] bnd_cg bndO_cg br_cg
set_option maxHeartbeats 8000000 in
/-- A frame's bytes. -/
theorem R14 (N d : Nat) (f : Fra) (o : okF f) : sem tab (N + 100) (d + 5) 14 [.agg (frC f)] [] = cond (plainF f) (some (.tup [.sl 0 0 0 (putF f).length, .b true], [row (byL (putF f)) 1 true])) (some (.tup [.sl 0 0 0 0, .b false], [row [] 1 true])) := by
  rw [sem_succ tab (N + 100) (d + 4) 14 m14 rfl]
  have h19 : sem tab (N + 100) (d + 4) 27 [.agg (frC f)] [] = _ := R44 N (d + 2) f o
  cases hp : plainF f
  · rw [hp] at h19
    obtain ⟨a1, a2, a3, a4, a5, a6, a7, a8, a9⟩ := f
    simp only [frC, cond_false, row] at h19 ⊢
    generalize uL a9 = q at *
    simp -implicitDefEqProofs (maxSteps := 1000000) (disch := first | omega | rfl) [m14, h19, boxO, KF, KS, getS, getO, gS, zipN, dropW, takeW, wds, stvs, sea, seaL, refs, refsL, refsEls, refsO, isPureEls, isPures, isPure, noExt, noExts, noExtEls, cellsL, ren, renL, renEls, keepO, keepS, keysO, refsS, refsOB, headC, setS, boxO, row, putW, putB, putB1, eNl, newOs, frz, renO, noExtO, zps, zp, two32, w64, -getElem?_pos, k_cnt, k_cnt0]
  · rw [hp] at h19
    have h20 := R45 N d f ((plainF_iff f).1 hp) o
    have hl := byL_len (frontF f)
    rw [frontF_len] at hl
    have hpl : (putF f).length = (frontF f).length + (cond (tagdF f.kind) f.tag []).length := by simp [putF]
    have hpb : byL (putF f) = byL (frontF f) ++ byL (cond (tagdF f.kind) f.tag []) := by simp [putF, byL]
    rw [frontF_len] at hpl
    have ha := aheadF_le f.kind
    have tu := take_uf f.tag o.tag
    have tu0 : (uL f.tag).take 32 = uL f.tag := by rw [← List.drop_zero (l := uL f.tag)]; exact tu
    have mu := map_uf f.tag
    have tl := byL_len f.tag
    have ul := uL_len f.tag
    rw [o.tag] at tl ul
    have hot := o.tag
    cases ht : tagdF f.kind
    · rw [ht] at h20 hpl hpb
      simp only [cond_false, cond_true, List.length_nil, Nat.add_zero, byL, List.map_nil, List.append_nil] at hpl hpb ⊢
      simp only [byL] at h20 hl
      rw [hpl, hpb]
      have t1 : List.take (aheadF f.kind) (List.map (fun n => [PV.i .u8 n]) (frontF f)) = List.map (fun n => [PV.i .u8 n]) (frontF f) := List.take_of_length_le (by omega)
      generalize List.map (fun n => [PV.i .u8 n]) (frontF f) = b at *
      generalize aheadF f.kind = n at *
      obtain ⟨a1, a2, a3, a4, a5, a6, a7, a8, a9⟩ := f
      simp only [frC, row] at h19 h20 ⊢
      generalize uL a9 = q at *
      simp -implicitDefEqProofs (maxSteps := 1000000) (disch := first | omega | rfl) [m14, h19, h20, hl, t1, boxO, KF, KS, getS, getO, gS, zipN, dropW, takeW, wds, stvs, sea, seaL, refs, refsL, refsEls, refsO, isPureEls, isPures, isPure, noExt, noExts, noExtEls, cellsL, ren, renL, renEls, keepO, keepS, keysO, refsS, refsOB, headC, setS, boxO, row, putW, putB, putB1, eNl, newOs, frz, renO, noExtO, zps, zp, two32, w64, -getElem?_pos, k_cnt, k_cnt0]
    · rw [ht] at h20 hpl hpb
      simp only [cond_false, cond_true, hot] at hpl hpb ⊢
      rw [hpl, hpb]
      have t1 : List.take (aheadF f.kind) (byL (frontF f)) = byL (frontF f) := List.take_of_length_le (by omega)
      have t2 : List.take (aheadF f.kind + 32) (byL (frontF f) ++ byL f.tag) = byL (frontF f) ++ byL f.tag := List.take_of_length_le (by simp [hl, tl])
      have g1 : ¬ (aheadF f.kind + 32 ≤ aheadF f.kind) := by omega
      have g2 : aheadF f.kind + 32 ≤ 4294967296 := by omega
      have wt := allW_by f.tag
      have ft := flat_by f.tag
      generalize byL (frontF f) = b at *
      generalize byL f.tag = c at *
      generalize aheadF f.kind = n at *
      clear hot
      obtain ⟨a1, a2, a3, a4, a5, a6, a7, a8, a9⟩ := f
      simp only [frC, row] at *
      generalize uL a9 = q at *
      simp -implicitDefEqProofs (maxSteps := 1000000) (disch := first | omega | rfl) [m14, h19, h20, hl, tl, ul, tu, tu0, mu, t1, t2, g1, g2, wt, ft, boxO, KVl, KF, KS, getS, getO, gS, zipN, dropW, takeW, wds, stvs, sea, seaL, refs, refsL, refsEls, refsO, isPureEls, isPures, isPure, noExt, noExts, noExtEls, cellsL, ren, renL, renEls, keepO, keepS, keysO, refsS, refsOB, headC, setS, boxO, row, putW, putB, putB1, eNl, newOs, frz, renO, noExtO, zps, zp, two32, w64, -getElem?_pos, k_cnt, k_cnt0]
set_option maxHeartbeats 8000000 in
/-- How many bytes the first two tell. -/
theorem R29t (N d : Nat) (b : List Int) (hb : b.length ≤ 100000) (hr : ∀ x ∈ b, 0 ≤ x ∧ x ≤ 255) : sem tab N (d + 1) 29 [.l false (byL b)] [] = some (.i .i64 (longF b), []) := by
  rw [sem_succ tab N d 29 m29 rfl]
  match b, hb, hr with
  | [], _, _ =>
    simp -implicitDefEqProofs (maxSteps := 1000000) (disch := first | omega | rfl) [m29, longF, byL, boxO, KF, KS, getS, getO, gS, zipN, dropW, takeW, wds, stvs, sea, seaL, refs, refsL, refsEls, refsO, isPureEls, isPures, isPure, noExt, noExts, noExtEls, cellsL, ren, renL, renEls, keepO, keepS, keysO, refsS, refsOB, headC, setS, boxO, row, putW, putB, putB1, eNl, newOs, frz, renO, noExtO, zps, zp, two32, w64, -getElem?_pos, k_cnt, k_cnt0]
  | [x], _, _ =>
    simp -implicitDefEqProofs (maxSteps := 1000000) (disch := first | omega | rfl) [m29, longF, byL, boxO, KF, KS, getS, getO, gS, zipN, dropW, takeW, wds, stvs, sea, seaL, refs, refsL, refsEls, refsO, isPureEls, isPures, isPure, noExt, noExts, noExtEls, cellsL, ren, renL, renEls, keepO, keepS, keysO, refsS, refsOB, headC, setS, boxO, row, putW, putB, putB1, eNl, newOs, frz, renO, noExtO, zps, zp, two32, w64, -getElem?_pos, k_cnt, k_cnt0]
  | x :: y :: r, hb, hr =>
    have hx := hr x (by simp)
    have hy := hr y (by simp)
    have hl : longF (x :: y :: r) = if x * 256 + y > (r.length : Int) then -1 else 2 + (x * 256 + y) := by
      unfold longF
      rw [show (x :: y :: r).take 2 = [x, y] from rfl, val2, if_neg (by simp)]
      simp only [List.length_cons]
      congr 1
      · apply propext; omega
    rw [hl]
    clear hl
    rw [show byL (x :: y :: r) = [.i .u8 x] :: [.i .u8 y] :: byL r from rfl]
    have rl := byL_len r
    simp only [List.length_cons] at hb
    have c1 : ¬ ((r.length + 1 + 1 : Nat) : Int) < 2 := by omega
    have w1 : IntKind.i64.wrap ((((r.length + 1 + 1 : Nat) : Int)) - 2) = (r.length : Int) := by rw [IntKind.wrap_i64]; omega
    have w1' : IntKind.i64.wrap ((r.length : Int) + 1 + 1 - 2) = (r.length : Int) := by rw [IntKind.wrap_i64]; omega
    have w2 : IntKind.i64.wrap (256 * x) = 256 * x := by rw [IntKind.wrap_i64]; omega
    have w3 : IntKind.i64.wrap (256 * x + y) = 256 * x + y := by rw [IntKind.wrap_i64]; omega
    have w4 : IntKind.i64.wrap x = x := by rw [IntKind.wrap_i64]; omega
    have w5 : IntKind.i64.wrap y = y := by rw [IntKind.wrap_i64]; omega
    have w6 : IntKind.i64.wrap (2 + 256 * x) = 2 + 256 * x := by rw [IntKind.wrap_i64]; omega
    have w7 : IntKind.i64.wrap (2 + 256 * x + y) = 2 + 256 * x + y := by rw [IntKind.wrap_i64]; omega
    have c2 : ¬ ((r.length : Int) + 1 + 1 < 2) := by omega
    by_cases c : x * 256 + y > (r.length : Int)
    · rw [if_pos c]
      have c3 : (r.length : Int) < 256 * x + y := by omega
      generalize byL r = s at *
      generalize r.length = n at *
      simp -implicitDefEqProofs (maxSteps := 1000000) (disch := first | omega | rfl) [m29, rl, c1, c2, w1, w1', w2, w3, w4, w5, w6, w7, c3, boxO, KF, KS, getS, getO, gS, zipN, dropW, takeW, wds, stvs, sea, seaL, refs, refsL, refsEls, refsO, isPureEls, isPures, isPure, noExt, noExts, noExtEls, cellsL, ren, renL, renEls, keepO, keepS, keysO, refsS, refsOB, headC, setS, boxO, row, putW, putB, putB1, eNl, newOs, frz, renO, noExtO, zps, zp, two32, w64, -getElem?_pos, k_cnt, k_cnt0]
    · rw [if_neg c]
      have c3 : ¬ (r.length : Int) < 256 * x + y := by omega
      have e : (2 + (x * 256 + y) : Int) = 2 + 256 * x + y := by omega
      rw [e]
      generalize byL r = s at *
      generalize r.length = n at *
      simp -implicitDefEqProofs (maxSteps := 1000000) (disch := first | omega | rfl) [m29, rl, c1, c2, w1, w1', w2, w3, w4, w5, w6, w7, c3, boxO, KF, KS, getS, getO, gS, zipN, dropW, takeW, wds, stvs, sea, seaL, refs, refsL, refsEls, refsO, isPureEls, isPures, isPure, noExt, noExts, noExtEls, cellsL, ren, renL, renEls, keepO, keepS, keysO, refsS, refsOB, headC, setS, boxO, row, putW, putB, putB1, eNl, newOs, frz, renO, noExtO, zps, zp, two32, w64, -getElem?_pos, k_cnt, k_cnt0]
def slg41 (b : List (List PV)) (at' k : Nat) (acc : Int) (i : Nat) : SL := [(0, .l false b), (1, .i .i64 at'), (2, .i .i64 k), (8, .i .u64 acc), (9, .i .i64 i)]
set_option maxHeartbeats 4000000 in
theorem stg41 (Φ : Sem') (N : Nat) (g : SL → OB → Option R) (b : List (List PV)) (at' k i : Nat) (acc c : Int) (hx : b[i]? = some [.i .u8 c]) (hi : i < at' + k) (hn : at' + k < 1000000) (ha : 0 ≤ acc ∧ acc < 2 ^ 56) (hc : 0 ≤ c ∧ c ≤ 255) :
    m41b0 Φ N [] g (slg41 b at' k acc i) [] = g (slg41 b at' k (acc * 256 + c) (i + 1)) [] := by
  have w1 : IntKind.i64.wrap ((at' : Int) + k) = (at' : Int) + k := by rw [IntKind.wrap_i64]; omega
  have w2 := w64n (i := i) (by omega)
  have w3 : IntKind.u64.wrap (256 * acc) = acc * 256 := by rw [IntKind.wrap_u64]; omega
  have w4 : IntKind.u64.wrap c = c := by rw [IntKind.wrap_u64]; omega
  have w5 : IntKind.u64.wrap (acc * 256 + c) = acc * 256 + c := by rw [IntKind.wrap_u64]; omega
  have ci : (i : Int) < (at' : Int) + k := by omega
  simp -implicitDefEqProofs (maxSteps := 1000000) (disch := first | omega | rfl) [m41b0, slg41, hx, w1, w2, w3, w4, w5, ci, KS, getS, getO, gS, zipN, dropW, takeW, wds, stvs, sea, seaL, refs, refsL, refsEls, refsO, isPureEls, isPures, isPure, noExt, noExts, noExtEls, cellsL, ren, renL, renEls, keepO, keepS, keysO, refsS, refsOB, headC, setS, boxO, row, putW, putB, putB1, eNl, newOs, frz, renO, noExtO, zps, zp, two32, w64, -getElem?_pos, k_cnt, k_cnt0]
set_option maxHeartbeats 4000000 in
theorem eng41 (Φ : Sem') (N : Nat) (g : SL → OB → Option R) (b : List (List PV)) (at' k i : Nat) (acc : Int) (hi : i = at' + k) (hn : at' + k < 1000000) :
    m41b0 Φ N [] g (slg41 b at' k acc i) [] = some (.tup [.i .u64 acc, .i .i64 ((at' + k : Nat) : Int)], []) := by
  have w1 : IntKind.i64.wrap ((at' : Int) + k) = ((at' + k : Nat) : Int) := by rw [IntKind.wrap_i64]; omega
  subst hi
  generalize at' + k = z at *
  simp -implicitDefEqProofs (maxSteps := 1000000) (disch := first | omega | rfl) [m41b0, slg41, w1, KS, getS, getO, gS, zipN, dropW, takeW, wds, stvs, sea, seaL, refs, refsL, refsEls, refsO, isPureEls, isPures, isPure, noExt, noExts, noExtEls, cellsL, ren, renL, renEls, keepO, keepS, keysO, refsS, refsOB, headC, setS, boxO, row, putW, putB, putB1, eNl, newOs, frz, renO, noExtO, zps, zp, two32, w64, -getElem?_pos, k_cnt, k_cnt0]
theorem lpg41 (Φ : Sem') (N M at' k : Nat) (bs : List Int) (hr : ∀ x ∈ bs, 0 ≤ x ∧ x ≤ 255) (hk : k ≤ 8) (hf : at' + k ≤ bs.length) (hb : bs.length < 1000000) : ∀ (n j : Nat), j + n = k →
    loopC (m41b0 Φ N []) (M + 1 + n) (slg41 (byL bs) at' k (val ((bs.drop at').take j)) (at' + j)) [] = some (.tup [.i .u64 (val ((bs.drop at').take k)), .i .i64 ((at' + k : Nat) : Int)], []) := by
  intro n
  induction n with
  | zero =>
    intro j h
    have : j = k := by omega
    subst this
    rw [Nat.add_zero, k_loop, eng41 _ _ _ _ _ _ _ _ rfl (by omega)]
  | succ n ih =>
    intro j h
    have hj : at' + j < bs.length := by omega
    have hs : (bs.drop at').take (j + 1) = (bs.drop at').take j ++ [bs[at' + j]] := by
      rw [List.take_succ, List.getElem?_drop, List.getElem?_eq_getElem hj]; rfl
    have hv := val_range ((bs.drop at').take j) (fun x hx => hr x (List.mem_of_mem_drop (List.mem_of_mem_take hx)))
    have hl : ((bs.drop at').take j).length ≤ 7 := by rw [List.length_take]; omega
    have hp : (256 : Int) ^ ((bs.drop at').take j).length ≤ 2 ^ 56 := (by decide : ∀ m ≤ 7, (256 : Int) ^ m ≤ 2 ^ 56) _ hl
    have hc := hr _ (List.getElem_mem hj)
    rw [← Nat.add_assoc, k_loop, stg41 Φ N _ (byL bs) at' k (at' + j) _ bs[at' + j] (by simp [byL, hj]) (by omega) (by omega) ⟨hv.1, by omega⟩ hc]
    have := ih (j + 1) (by omega)
    rw [hs, val_app] at this
    exact this
set_option maxHeartbeats 4000000 in
theorem R41 (N d : Nat) (bs : List Int) (at' k : Nat) (hk : 1 ≤ k ∧ k ≤ 8) (hb : bs.length < 1000000) (hr : ∀ x ∈ bs, 0 ≤ x ∧ x ≤ 255) (hf : at' + k ≤ bs.length) :
    sem tab (N + 100) (d + 1) 41 [.l false (byL bs), .i .i64 at', .i .i64 k] [] = some (.tup [.i .u64 (val ((bs.drop at').take k)), .i .i64 ((at' + k : Nat) : Int)], []) := by
  rw [sem_succ tab (N + 100) d 41 m41 rfl]
  have h := lpg41 (sem tab (N + 100) d) (N + 100) (N + 99 - k) at' k bs hr hk.2 hf hb k 0 (by omega)
  rw [show N + 99 - k + 1 + k = N + 100 by omega, List.take_zero, show val [] = 0 from rfl, Nat.add_zero, k_loop] at h
  have hbl := byL_len bs
  have c0 : ¬ ((k : Int) < 1) := by omega
  have c0' : ¬ ((k : Int) > 8) := by omega
  have c1 : ¬ ((at' : Int) < 0) := by omega
  have c2 : ¬ ((at' : Int) > (bs.length : Int)) := by omega
  have w1 : IntKind.i64.wrap ((bs.length : Int) - at') = (bs.length : Int) - at' := w64 (by omega) (by omega)
  have c3 : ¬ ((bs.length : Int) - at' < k) := by omega
  generalize val ((bs.drop at').take k) = V at *
  simp only [slg41, Nat.add_zero] at h
  generalize byL bs = b at *
  simp -implicitDefEqProofs (maxSteps := 1000000) (disch := first | omega | rfl) [m41, hbl, c0, c0', c1, c2, c3, w1, h, KS, getS, getO, gS, zipN, dropW, takeW, wds, stvs, sea, seaL, refs, refsL, refsEls, refsO, isPureEls, isPures, isPure, noExt, noExts, noExtEls, cellsL, ren, renL, renEls, keepO, keepS, keysO, refsS, refsOB, headC, setS, boxO, row, putW, putB, putB1, eNl, newOs, frz, renO, noExtO, zps, zp, two32, w64, -getElem?_pos, k_cnt, k_cnt0]
def sl31a (b ss : List (List PV)) (s i : Nat) : SL := [(0, .l false b), (1, .l false ss), (6, .i .i64 s), (7, .i .i64 i)]
def sl31 (b ss : List (List PV)) (n at' i : Nat) : SL := [(0, .l false b), (1, .l false ss), (8, .sl 135 0 0 n), (9, .i .i64 at'), (10, .i .i64 i)]
set_option maxHeartbeats 4000000 in
theorem step31a (Φ : Sem') (N : Nat) (g : SL → OB → Option R) (b ss : List (List PV)) (s i k : Nat) (hx : ss[i]? = some [.i .i64 k]) (hi : i < ss.length) (hn : i < 40) (hk : 1 ≤ k ∧ k ≤ 8) (hs : s ≤ 1000) :
    m31b1 Φ N [] g (sl31a b ss s i) [] = g (sl31a b ss (s + k) (i + 1)) [] := by
  have w2 := w64n (i := i) (by omega)
  have w1 : IntKind.i64.wrap ((s : Int) + k) = ((s + k : Nat) : Int) := by rw [IntKind.wrap_i64]; omega
  have ci : (i : Int) < ss.length := by omega
  have c1 : ¬ ((k : Int) < 1) := by omega
  have c2 : ¬ ((k : Int) > 8) := by omega
  have c3 : ¬ ((i : Int) ≥ 40) := by omega
  generalize hz : ((s + k : Nat) : Int) = z at *
  simp -implicitDefEqProofs (maxSteps := 1000000) (disch := first | omega | rfl) [m31b1, sl31a, hx, w1, w2, ci, c1, c2, c3, hz, KS, getS, getO, gS, zipN, dropW, takeW, wds, stvs, sea, seaL, refs, refsL, refsEls, refsO, isPureEls, isPures, isPure, noExt, noExts, noExtEls, cellsL, ren, renL, renEls, keepO, keepS, keysO, refsS, refsOB, headC, setS, boxO, row, putW, putB, putB1, eNl, newOs, frz, renO, noExtO, zps, zp, two32, w64, -getElem?_pos, k_cnt, k_cnt0]
set_option maxHeartbeats 4000000 in
theorem end31n (Φ : Sem') (N : Nat) (g : SL → OB → Option R) (b ss : List (List PV)) (s : Nat) (h : s ≠ b.length) :
    m31b1 Φ N [] g (sl31a b ss s ss.length) [] = some (.tup [.sl 0 0 0 0, .b false], [row [] 1 true]) := by
  have c : ((s : Int) == b.length) = false := by rw [beq_eq_false_iff_ne]; omega
  have c' : ((s : Int) != b.length) = true := by rw [bne, c]; rfl
  simp -implicitDefEqProofs (maxSteps := 1000000) (disch := first | omega | rfl) [m31b1, sl31a, h, c, c', KS, getS, getO, gS, zipN, dropW, takeW, wds, stvs, sea, seaL, refs, refsL, refsEls, refsO, isPureEls, isPures, isPure, noExt, noExts, noExtEls, cellsL, ren, renL, renEls, keepO, keepS, keysO, refsS, refsOB, headC, setS, boxO, row, putW, putB, putB1, eNl, newOs, frz, renO, noExtO, zps, zp, two32, w64, -getElem?_pos, k_cnt, k_cnt0]
set_option maxHeartbeats 4000000 in
theorem end31y (Φ : Sem') (N : Nat) (g : SL → OB → Option R) (b ss : List (List PV)) :
    m31b1 Φ (N + 1) [] g (sl31a b ss b.length ss.length) [] = m31b0 Φ (N + 1) [] (loopC (m31b0 Φ (N + 1) []) N) (sl31 b ss 0 0 0) [(135, row [] 1 true)] := by
  simp -implicitDefEqProofs (maxSteps := 1000000) (disch := first | omega | rfl) [m31b1, sl31a, sl31, row, KS, getS, getO, gS, zipN, dropW, takeW, wds, stvs, sea, seaL, refs, refsL, refsEls, refsO, isPureEls, isPures, isPure, noExt, noExts, noExtEls, cellsL, ren, renL, renEls, keepO, keepS, keysO, refsS, refsOB, headC, setS, boxO, row, putW, putB, putB1, eNl, newOs, frz, renO, noExtO, zps, zp, two32, w64, -getElem?_pos, k_cnt, k_cnt0]
set_option maxHeartbeats 4000000 in
theorem step31 (N d : Nat) (g : SL → OB → Option R) (bs : List Int) (ss t : List (List PV)) (i at' k : Nat) (hx : ss[i]? = some [.i .i64 k]) (hi : i < ss.length) (hn : i ≤ 40) (hk : 1 ≤ k ∧ k ≤ 8) (hb : bs.length < 1000000) (hr : ∀ x ∈ bs, 0 ≤ x ∧ x ≤ 255) (hf : at' + k ≤ bs.length) (ht : t.length ≤ 100000) :
    m31b0 (sem tab (N + 100) (d + 1)) (N + 100) [] g (sl31 (byL bs) ss t.length at' i) [(135, row t 1 true)] = g (sl31 (byL bs) ss (t ++ [[PV.i .u64 (val ((bs.drop at').take k))]]).length (at' + k) (i + 1)) [(135, row (t ++ [[.i .u64 (val ((bs.drop at').take k))]]) 1 true)] := by
  have h99 := R41 N d bs at' k hk hb hr hf
  have w2 := w64n (i := i) (by omega)
  have ci : (i : Int) < ss.length := by omega
  generalize val ((bs.drop at').take k) = V at *
  generalize byL bs = b at *
  have t2 : List.take t.length t = t := List.take_length
  have e0 : t.length + 1 ≤ 4294967296 := by omega
  have e1 : ¬ (t.length + 1 ≤ t.length) := by omega
  have e3 : (t ++ [[PV.i .u64 V]]).length = t.length + 1 := by simp
  have e4 : List.take (t.length + 1) (t ++ [[PV.i .u64 V]]) = t ++ [[PV.i .u64 V]] := List.take_of_length_le (by omega)
  generalize hz : ((at' + k : Nat) : Int) = z at *
  simp -implicitDefEqProofs (maxSteps := 1000000) (disch := first | omega | rfl) [m31b0, sl31, hx, h99, w2, ci, t2, e0, e1, e3, e4, hz, KS, getS, getO, gS, zipN, dropW, takeW, wds, stvs, sea, seaL, refs, refsL, refsEls, refsO, isPureEls, isPures, isPure, noExt, noExts, noExtEls, cellsL, ren, renL, renEls, keepO, keepS, keysO, refsS, refsOB, headC, setS, boxO, row, putW, putB, putB1, eNl, newOs, frz, renO, noExtO, zps, zp, two32, w64, -getElem?_pos, k_cnt, k_cnt0]
set_option maxHeartbeats 4000000 in
theorem end31 (N d : Nat) (g : SL → OB → Option R) (b : List (List PV)) (ss t : List (List PV)) (at' : Nat) :
    m31b0 (sem tab N d) N [] g (sl31 b ss t.length at' ss.length) [(135, row t 1 true)] = some (.tup [.sl 0 0 0 t.length, .b true], [row t 1 true]) := by
  have t2 : List.take t.length t = t := List.take_length
  simp -implicitDefEqProofs (maxSteps := 1000000) (disch := first | omega | rfl) [m31b0, sl31, t2, KS, getS, getO, gS, zipN, dropW, takeW, wds, stvs, sea, seaL, refs, refsL, refsEls, refsO, isPureEls, isPures, isPure, noExt, noExts, noExtEls, cellsL, ren, renL, renEls, keepO, keepS, keysO, refsS, refsOB, headC, setS, boxO, row, putW, putB, putB1, eNl, newOs, frz, renO, noExtO, zps, zp, two32, w64, -getElem?_pos, k_cnt, k_cnt0]
theorem kL_len (ks : List Nat) : (kL ks).length = ks.length := by simp [kL]
theorem loop31a (Φ : Sem') (N : Nat) (b : List (List PV)) (ks : List Nat) (hks : ∀ k ∈ ks, 1 ≤ k ∧ k ≤ 8) (hn : ks.length ≤ 40) : ∀ (j i e s : Nat), i + j = ks.length → s ≤ 8 * i →
    loopC (m31b1 Φ N []) (e + 1 + j) (sl31a b (kL ks) s i) [] = m31b1 Φ N [] (loopC (m31b1 Φ N []) e) (sl31a b (kL ks) (s + sumL (ks.drop i)) ks.length) [] := by
  intro j
  induction j with
  | zero =>
    intro i e s h hs
    have : i = ks.length := by omega
    subst this
    rw [List.drop_length, Nat.add_zero, k_loop]
    rfl
  | succ j ih =>
    intro i e s h hs
    have hi : i < ks.length := by omega
    have q1 := List.drop_eq_getElem_cons hi
    have hk := hks _ (List.getElem_mem hi)
    rw [q1, ← Nat.add_assoc, k_loop, step31a Φ N _ b (kL ks) s i ks[i] (by simp [kL, hi]) (by rw [kL_len]; exact hi) (by omega) hk (by omega), ih (i + 1) e _ (by omega) (by omega)]
    simp only [sumL, Nat.add_assoc]
theorem loop31 (N d : Nat) (bs : List Int) (ks : List Nat) (hks : ∀ k ∈ ks, 1 ≤ k ∧ k ≤ 8) (hn : ks.length ≤ 40) (hb : bs.length < 1000000) (hr : ∀ x ∈ bs, 0 ≤ x ∧ x ≤ 255) : ∀ (j i e at' : Nat) (t : List (List PV)), i + j = ks.length → at' + sumL (ks.drop i) = bs.length → t.length = i →
    loopC (m31b0 (sem tab (N + 100) (d + 1)) (N + 100) []) (e + 1 + j) (sl31 (byL bs) (kL ks) t.length at' i) [(135, row t 1 true)] = some (.tup [.sl 0 0 0 (t ++ cuts bs at' (ks.drop i)).length, .b true], [row (t ++ cuts bs at' (ks.drop i)) 1 true]) := by
  intro j
  induction j with
  | zero =>
    intro i e at' t h hs ht
    have : i = ks.length := by omega
    subst this
    rw [List.drop_length]
    have := end31 (N + 100) (d + 1) (loopC (m31b0 (sem tab (N + 100) (d + 1)) (N + 100) []) e) (byL bs) (kL ks) t at'
    rw [kL_len] at this
    rw [Nat.add_zero, k_loop, this]
    simp [cuts]
  | succ j ih =>
    intro i e at' t h hs ht
    have hi : i < ks.length := by omega
    have q1 := List.drop_eq_getElem_cons hi
    rw [q1] at hs ⊢
    simp only [sumL] at hs
    have hk := hks _ (List.getElem_mem hi)
    rw [← Nat.add_assoc, k_loop, step31 N d _ bs (kL ks) t i at' ks[i] (by simp [kL, hi]) (by rw [kL_len]; exact hi) (by omega) hk hb hr (by omega) (by omega), ih (i + 1) e _ _ (by omega) (by omega) (by simp [ht])]
    simp only [cuts, List.append_assoc, List.cons_append, List.nil_append]
set_option maxHeartbeats 4000000 in
theorem st31 (Φ : Sem') (N : Nat) (b ss : List (List PV)) : m31 Φ (N + 1) [.l false b, .l false ss] [] = m31b1 Φ (N + 1) [] (loopC (m31b1 Φ (N + 1) []) N) (sl31a b ss 0 0) [] := by
  simp -implicitDefEqProofs (maxSteps := 1000000) (disch := first | omega | rfl) [m31, sl31a, KS, getS, getO, gS, zipN, dropW, takeW, wds, stvs, sea, seaL, refs, refsL, refsEls, refsO, isPureEls, isPures, isPure, noExt, noExts, noExtEls, cellsL, ren, renL, renEls, keepO, keepS, keysO, refsS, refsOB, headC, setS, boxO, row, putW, putB, putB1, eNl, newOs, frz, renO, noExtO, zps, zp, two32, w64, -getElem?_pos, k_cnt, k_cnt0]
/-- Numbers are cut. -/
theorem R31 (N d : Nat) (bs : List Int) (ks : List Nat) (hks : ∀ k ∈ ks, 1 ≤ k ∧ k ≤ 8) (hn : ks.length ≤ 40) (hb : bs.length < 1000000) (hr : ∀ x ∈ bs, 0 ≤ x ∧ x ≤ 255) :
    sem tab (N + 100) (d + 2) 31 [.l false (byL bs), .l false (kL ks)] [] = if sumL ks = bs.length then some (.tup [.sl 0 0 0 (cuts bs 0 ks).length, .b true], [row (cuts bs 0 ks) 1 true]) else some (.tup [.sl 0 0 0 0, .b false], [row [] 1 true]) := by
  rw [sem_succ tab (N + 100) (d + 1) 31 m31 rfl, st31 _ (N + 99)]
  have ha := loop31a (sem tab (N + 100) (d + 1)) (N + 100) (byL bs) ks hks hn ks.length 0 (N + 99 - ks.length) 0 (by omega) (by omega)
  rw [show N + 99 - ks.length + 1 + ks.length = N + 99 + 1 by omega, k_loop, List.drop_zero, Nat.zero_add] at ha
  refine Eq.trans ha ?_
  by_cases h : sumL ks = bs.length
  · rw [if_pos h, h]
    have hy := end31y (sem tab (N + 100) (d + 1)) (N + 99) (loopC (m31b1 (sem tab (N + 100) (d + 1)) (N + 100) []) (N + 99 - ks.length)) (byL bs) (kL ks)
    rw [kL_len, byL_len] at hy
    refine Eq.trans hy ?_
    have hl := loop31 N d bs ks hks hn hb hr ks.length 0 (N + 99 - ks.length) 0 [] (by omega) (by simpa using h) rfl
    rw [show N + 99 - ks.length + 1 + ks.length = N + 99 + 1 by omega, k_loop, List.drop_zero, List.nil_append] at hl
    exact hl
  · rw [if_neg h]
    have hy := end31n (sem tab (N + 100) (d + 1)) (N + 100) (loopC (m31b1 (sem tab (N + 100) (d + 1)) (N + 100) []) (N + 99 - ks.length)) (byL bs) (kL ks) (sumL ks) (by rw [byL_len]; exact h)
    rw [kL_len] at hy
    exact hy
end
section
attribute [local congr] bnd_cg bndO_cg br_cg
def kF (k : Int) : Fra := ⟨k, 0, 0, 0, 0, 0, 0, 0, z32⟩
def sl15 (b : List (List PV)) (t : Bool) (n i : Nat) : SL := [(0, .l false b), (2, .p 80 0 0 0 none), (5, .sl 432 0 0 n), (6, .b t), (7, .sl 127 0 0 i), (8, .i .i64 i)]
def ob15 (l : List (List PV)) (s : List Nat) : OB := [(127, row (kL s) 1 true), (80, fbox zeF), (432, row l 2 true)]
set_option maxHeartbeats 8000000 in
theorem st15 (Φ : Sem') (N : Nat) (b l : List (List PV)) (k : Int) (t : Bool) (n : Nat) (hb : b.length ≤ 64) (h3 : 3 ≤ b.length) (hk : 0 ≤ k ∧ k ≤ 6) (hl : l.length = n) (hx : b[2]? = some [.i .u8 k])
    (H29 : Φ 29 [.l false b] [] = some (.i .i64 b.length, []))
    (H30 : Φ 30 [.agg (frC (kF k))] [] = some (.tup [.sl 0 0 0 n, .b t], [row l 2 true])) :
    m15 Φ (N + 1) [.l false b] [] = m15b0 Φ (N + 1) [] (loopC (m15b0 Φ (N + 1) []) N) (sl15 b t n 0) (ob15 l []) := by
  have c1 : ¬ ((b.length : Int) > 64) := by omega
  have c2 : ¬ ((b.length : Int) < 0) := by omega
  have c3 : ¬ ((b.length : Int) < 3) := by omega
  have c4 : ¬ (k ≥ 7) := by omega
  have w1 : IntKind.i64.wrap k = k := by rw [IntKind.wrap_i64]; omega
  have hu' := uz32.symm
  have zl2 : (uL z32).length = 32 := by rw [uL_len]; rfl
  simp only [frC, kF, zeF, fbox, box, row, sl15, ob15, kL, List.map_nil] at *
  generalize uL z32 = z at *
  generalize hbl : b.length = m at *
  simp -implicitDefEqProofs (maxSteps := 1000000) (disch := first | omega | rfl) [m15, hbl, H29, H30, hl, hx, c1, c2, c3, c4, w1, hu', zl2, -List.reduceReplicate, boxO, KVl, KF, KS, getS, getO, gS, zipN, dropW, takeW, wds, stvs, sea, seaL, refs, refsL, refsEls, refsO, isPureEls, isPures, isPure, noExt, noExts, noExtEls, cellsL, ren, renL, renEls, keepO, keepS, keysO, refsS, refsOB, headC, setS, boxO, row, putW, putB, putB1, eNl, newOs, frz, renO, noExtO, zps, zp, two32, w64, -getElem?_pos, k_cnt, k_cnt0]
set_option maxHeartbeats 8000000 in
theorem step15 (Φ : Sem') (N : Nat) (g : SL → OB → Option R) (b l r : List (List PV)) (t : Bool) (x : Int) (n i k : Nat) (hx : l[i]? = some [.i .u64 x, .i .i64 k]) (hi : i < n) (hl : l.length = n) (hn : n ≤ 40) (hr : r.length = i) :
    m15b0 Φ N [] g (sl15 b t n i) [(127, row r 1 true), (80, fbox zeF), (432, row l 2 true)] = g (sl15 b t n (i + 1)) [(127, row (r ++ [[.i .i64 k]]) 1 true), (80, fbox zeF), (432, row l 2 true)] := by
  have w2 := w64n (i := i) (by omega)
  have ci : (i : Int) < n := by omega
  have t2 : List.take i r = r := List.take_of_length_le (by omega)
  have e0 : i + 1 ≤ 4294967296 := by omega
  have e1 : ¬ (i + 1 ≤ i) := by omega
  have e4 : List.take (i + 1) (r ++ [[PV.i .i64 k]]) = r ++ [[PV.i .i64 k]] := List.take_of_length_le (by simp [hr])
  have zl2 : (uL z32).length = 32 := by rw [uL_len]; rfl
  simp only [frC, zeF, fbox, box, row, sl15] at *
  generalize uL z32 = z at *
  simp -implicitDefEqProofs (maxSteps := 1000000) (disch := first | omega | rfl) [m15b0, hx, hr, hl, w2, ci, t2, e0, e1, e4, zl2, boxO, KVl, KF, KS, getS, getO, gS, zipN, dropW, takeW, wds, stvs, sea, seaL, refs, refsL, refsEls, refsO, isPureEls, isPures, isPure, noExt, noExts, noExtEls, cellsL, ren, renL, renEls, keepO, keepS, keysO, refsS, refsOB, headC, setS, boxO, row, putW, putB, putB1, eNl, newOs, frz, renO, noExtO, zps, zp, two32, w64, -getElem?_pos, k_cnt, k_cnt0]
def ssF (k : Int) : List Nat := (numsF (kF k)).map (·.2)
theorem lp15 (Φ : Sem') (N : Nat) (b : List (List PV)) (t : Bool) (l : List (Int × Nat)) (hn : l.length ≤ 40) : ∀ (j i e : Nat), i + j = l.length →
    loopC (m15b0 Φ N []) (e + 1 + j) (sl15 b t l.length i) (ob15 (nuL l) ((l.map (·.2)).take i)) = m15b0 Φ N [] (loopC (m15b0 Φ N []) e) (sl15 b t l.length l.length) (ob15 (nuL l) (l.map (·.2))) := by
  intro j
  induction j with
  | zero =>
    intro i e h
    have : i = l.length := by omega
    subst this
    rw [Nat.add_zero, k_loop, List.take_of_length_le (by simp)]
  | succ j ih =>
    intro i e h
    have hi : i < l.length := by omega
    have hs := step15 Φ N (loopC (m15b0 Φ N []) (e + 1 + j)) b (nuL l) (kL ((l.map (·.2)).take i)) t l[i].1 l.length i l[i].2 (nuL_get l i hi) hi (nuL_len l) hn (by rw [kL_len, List.length_take, List.length_map]; omega)
    have he : kL ((l.map (·.2)).take i) ++ [[.i .i64 ((l[i].2 : Nat) : Int)]] = kL ((l.map (·.2)).take (i + 1)) := by
      rw [List.take_succ, List.getElem?_map, List.getElem?_eq_getElem hi]
      simp [kL]
    rw [he] at hs
    rw [← Nat.add_assoc, k_loop]
    refine Eq.trans hs ?_
    exact ih (i + 1) e (by omega)
def outC (b : Bool) (c : List (List PV)) : Option R := cond b (some (.tup [.sl 0 0 0 c.length, .b true], [row c 1 true])) (some (.tup [.sl 0 0 0 0, .b false], [row [] 1 true]))
set_option maxHeartbeats 8000000 in
/-- Without a tag, or not enough bytes for one. -/
theorem e15a (Φ : Sem') (N : Nat) (g : SL → OB → Option R) (t : Bool) (b p : List Int) (l : List (List PV)) (s : List Nat) (k : Int) (cut pl : Bool) (c : List (List PV)) (h : Fra) (hb : b.length ≤ 64) (h3 : 3 ≤ b.length) (ht : t = false ∨ b.length < 35) (hz : h.tag = z32) (hx : (byL b)[2]? = some [.i .u8 k]) (hk : 0 ≤ k ∧ k ≤ 6)
    (hp : p.length ≤ 100) (rp : ∀ x ∈ p, 0 ≤ x ∧ x ≤ 255) (rb : ∀ x ∈ b, 0 ≤ x ∧ x ≤ 255)
    (H31 : Φ 31 [.l false (byL (b.drop 3)), .l false (kL s)] [] = outC cut c)
    (H32 : cut = true → Φ 32 [.i .i64 k, .l false c] [] = some (.agg (frC h), []))
    (H14 : Φ 14 [.agg (frC h)] [] = outP pl p) :
    m15b0 Φ N [] g (sl15 (byL b) t s.length s.length) (ob15 l s) = cond (cut && (pl && decide (p = b))) (okR h) (errR 3) := by
  have hu' := uz32.symm
  have zl2 : (uL z32).length = 32 := by rw [uL_len]; rfl
  have sl := kL_len s
  have st : List.take s.length (kL s) = kL s := List.take_of_length_le (by omega)
  have wb := allW_by b
  have bl := byL_len b
  have hr := drop_by b 3
  have rl := byL_len (b.drop 3)
  rw [List.length_drop] at rl
  have ub := unB_by b
  have up := unB_by p
  have lp := byL_len p
  have tp : List.take p.length (byL p) = byL p := List.take_of_length_le (by omega)
  have de := dec_charsF p b rp rb
  have h3i : (3 : Int) ≤ (byL b).length := by omega
  have w1 : IntKind.i64.wrap k = k := by rw [IntKind.wrap_i64]; omega
  have tc : List.take c.length c = c := List.take_length
  have c32 : t = true → ¬ (((byL (b.drop 3)).length : Int) ≥ 32) := by
    intro h; rcases ht with e | e
    · rw [e] at h; cases h
    · omega
  rw [← de]
  clear de rp rb ht hp
  unfold outC at H31
  unfold outP at H14
  obtain ⟨a1, a2, a3, a4, a5, a6, a7, a8, a9⟩ := h
  simp only at hz
  subst hz
  simp only [frC, zeF, fbox, box, row, sl15, ob15, errR, okR] at *
  generalize chars p = sp at *
  generalize chars b = sb at *
  generalize byL (b.drop 3) = r at *
  generalize byL b = y at *
  generalize byL p = x at *
  generalize p.length = n at *
  generalize uL z32 = z at *
  generalize kL s = q at *
  generalize hcm : c.length = m at *
  cases cut
  · simp only [cond_false, Bool.false_and] at H31 ⊢
    clear H32 H14
    cases t
    · simp -implicitDefEqProofs (maxSteps := 1000000) (disch := first | omega | rfl) [m15b0, H31, sl, st, wb, hr, h3i, hu', zl2, -List.reduceReplicate, boxO, KVl, KF, KS, getS, getO, gS, zipN, dropW, takeW, wds, stvs, sea, seaL, refs, refsL, refsEls, refsO, isPureEls, isPures, isPure, noExt, noExts, noExtEls, cellsL, ren, renL, renEls, keepO, keepS, keysO, refsS, refsOB, headC, setS, boxO, row, putW, putB, putB1, eNl, newOs, frz, renO, noExtO, zps, zp, two32, w64, -getElem?_pos, k_cnt, k_cnt0]
    · have c32 := c32 rfl
      simp -implicitDefEqProofs (maxSteps := 1000000) (disch := first | omega | rfl) [m15b0, H31, sl, st, wb, hr, h3i, c32, hu', zl2, -List.reduceReplicate, boxO, KVl, KF, KS, getS, getO, gS, zipN, dropW, takeW, wds, stvs, sea, seaL, refs, refsL, refsEls, refsO, isPureEls, isPures, isPure, noExt, noExts, noExtEls, cellsL, ren, renL, renEls, keepO, keepS, keysO, refsS, refsOB, headC, setS, boxO, row, putW, putB, putB1, eNl, newOs, frz, renO, noExtO, zps, zp, two32, w64, -getElem?_pos, k_cnt, k_cnt0]
  · simp only [cond_true, Bool.true_and] at H31 ⊢
    have H32 := H32 rfl
    cases pl
    · simp only [cond_false, Bool.false_and] at H14 ⊢
      cases t
      · simp -implicitDefEqProofs (maxSteps := 1000000) (disch := first | omega | rfl) [m15b0, H31, H32, H14, hx, w1, tc, hcm, sl, st, wb, hr, h3i, hu', zl2, -List.reduceReplicate, boxO, KVl, KF, KS, getS, getO, gS, zipN, dropW, takeW, wds, stvs, sea, seaL, refs, refsL, refsEls, refsO, isPureEls, isPures, isPure, noExt, noExts, noExtEls, cellsL, ren, renL, renEls, keepO, keepS, keysO, refsS, refsOB, headC, setS, boxO, row, putW, putB, putB1, eNl, newOs, frz, renO, noExtO, zps, zp, two32, w64, -getElem?_pos, k_cnt, k_cnt0]
      · have c32 := c32 rfl
        simp -implicitDefEqProofs (maxSteps := 1000000) (disch := first | omega | rfl) [m15b0, H31, H32, H14, hx, w1, tc, hcm, sl, st, wb, hr, h3i, c32, hu', zl2, -List.reduceReplicate, boxO, KVl, KF, KS, getS, getO, gS, zipN, dropW, takeW, wds, stvs, sea, seaL, refs, refsL, refsEls, refsO, isPureEls, isPures, isPure, noExt, noExts, noExtEls, cellsL, ren, renL, renEls, keepO, keepS, keysO, refsS, refsOB, headC, setS, boxO, row, putW, putB, putB1, eNl, newOs, frz, renO, noExtO, zps, zp, two32, w64, -getElem?_pos, k_cnt, k_cnt0]
    · simp only [cond_true, Bool.true_and] at H14 ⊢
      cases e : decide (sp = sb) <;> simp only [cond_true, cond_false]
      · cases t
        · simp -implicitDefEqProofs (maxSteps := 1000000) (disch := first | omega | rfl) [m15b0, H31, H32, H14, e, ub, up, lp, tp, hx, w1, tc, hcm, sl, st, wb, hr, h3i, hu', zl2, -List.reduceReplicate, boxO, KVl, KF, KS, getS, getO, gS, zipN, dropW, takeW, wds, stvs, sea, seaL, refs, refsL, refsEls, refsO, isPureEls, isPures, isPure, noExt, noExts, noExtEls, cellsL, ren, renL, renEls, keepO, keepS, keysO, refsS, refsOB, headC, setS, boxO, row, putW, putB, putB1, eNl, newOs, frz, renO, noExtO, zps, zp, two32, w64, -getElem?_pos, k_cnt, k_cnt0]
        · have c32 := c32 rfl
          simp -implicitDefEqProofs (maxSteps := 1000000) (disch := first | omega | rfl) [m15b0, H31, H32, H14, e, ub, up, lp, tp, hx, w1, tc, hcm, sl, st, wb, hr, h3i, c32, hu', zl2, -List.reduceReplicate, boxO, KVl, KF, KS, getS, getO, gS, zipN, dropW, takeW, wds, stvs, sea, seaL, refs, refsL, refsEls, refsO, isPureEls, isPures, isPure, noExt, noExts, noExtEls, cellsL, ren, renL, renEls, keepO, keepS, keysO, refsS, refsOB, headC, setS, boxO, row, putW, putB, putB1, eNl, newOs, frz, renO, noExtO, zps, zp, two32, w64, -getElem?_pos, k_cnt, k_cnt0]
      · cases t
        · simp -implicitDefEqProofs (maxSteps := 1000000) (disch := first | omega | rfl) [m15b0, H31, H32, H14, e, ub, up, lp, tp, hx, w1, tc, hcm, sl, st, wb, hr, h3i, hu', zl2, -List.reduceReplicate, boxO, KVl, KF, KS, getS, getO, gS, zipN, dropW, takeW, wds, stvs, sea, seaL, refs, refsL, refsEls, refsO, isPureEls, isPures, isPure, noExt, noExts, noExtEls, cellsL, ren, renL, renEls, keepO, keepS, keysO, refsS, refsOB, headC, setS, boxO, row, putW, putB, putB1, eNl, newOs, frz, renO, noExtO, zps, zp, two32, w64, -getElem?_pos, k_cnt, k_cnt0]
        · have c32 := c32 rfl
          simp -implicitDefEqProofs (maxSteps := 1000000) (disch := first | omega | rfl) [m15b0, H31, H32, H14, e, ub, up, lp, tp, hx, w1, tc, hcm, sl, st, wb, hr, h3i, c32, hu', zl2, -List.reduceReplicate, boxO, KVl, KF, KS, getS, getO, gS, zipN, dropW, takeW, wds, stvs, sea, seaL, refs, refsL, refsEls, refsO, isPureEls, isPures, isPure, noExt, noExts, noExtEls, cellsL, ren, renL, renEls, keepO, keepS, keysO, refsS, refsOB, headC, setS, boxO, row, putW, putB, putB1, eNl, newOs, frz, renO, noExtO, zps, zp, two32, w64, -getElem?_pos, k_cnt, k_cnt0]
end
end Go.Proofs.Ytmhpkdcnhgmblaa
