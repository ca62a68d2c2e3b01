import Derived.Test.YtnkapponcbgbhaaPgA
import Derived.KernelRfl
set_option linter.all false
set_option linter.unusedSimpArgs false
set_option linter.unusedVariables false
namespace Go.Proofs.Ytnkapponcbgbhaa
open Go
section
attribute [local congr] bnd_cg bndO_cg br_cg
theorem V23x (N d : Nat) (q : Bool) (bs : List Int) (at' k : Nat) (hk : 1 ≤ k ∧ k ≤ 8) (hb : bs.length < 1000000) (ha : at' ≤ 1000) (hf : bs.length < at' + k) :
    sem tab (N + 100) (d + 2) 35 [.l q (byL bs), .i .i64 at', .i .i64 k] [] = some (.tup [.i .u64 0, .i .i64 (-1)], []) := by
  rw [sem_succ tab (N + 100) (d + 1) 35 m35 rfl]
  have h146 := U146 (N + 100) d k
  have b1 : inB k 1 8 = true := by simp only [inB, Bool.and_eq_true, decide_eq_true_eq]; omega
  rw [b1] at h146
  have hl := byL_len bs
  have c0 : ¬ ((at' : Int) < 0) := by omega
  have w1 : IntKind.i64.wrap ((bs.length : Int) - at') = (bs.length : Int) - at' := by rw [IntKind.wrap_i64]; omega
  rw [← hl] at hf w1
  generalize byL bs = b at *
  by_cases c1 : (at' : Int) > b.length
  · simp -implicitDefEqProofs (maxSteps := 1000000) (disch := first | omega | rfl) [m35, h146, c0, c1, KS, getS, gS, zipN, refs, refsL, noExt, ren, w64, -getElem?_pos]
  · have c2 : (b.length : Int) - at' < k := by omega
    simp -implicitDefEqProofs (maxSteps := 1000000) (disch := first | omega | rfl) [m35, h146, c0, c1, c2, w1, KS, getS, gS, zipN, refs, refsL, noExt, ren, w64, -getElem?_pos]
theorem V21 (N d : Nat) (bs : List Int) (hb : bs.length < 1000000) (hr : ∀ x ∈ bs, 0 ≤ x ∧ x ≤ 255) : sem tab (N + 100) (d + 3) 33 [.l false (byL bs)] [] = some (.i .i64 (longF bs), []) := by
  rw [sem_succ tab (N + 100) (d + 2) 33 m33 rfl]
  have hl := byL_len bs
  unfold longF
  by_cases h2 : bs.length < 2
  · have h23 := V23x N d false bs 0 2 (by omega) hb (by omega) (by omega)
    rw [if_pos h2]
    generalize byL bs = b at *
    rw [show ((0 : Nat) : Int) = 0 from rfl, show ((2 : Nat) : Int) = 2 from rfl] at h23
    simp -implicitDefEqProofs (maxSteps := 1000000) (disch := first | omega | rfl) [m33, h23, KS, getS, gS, zipN, refs, refsL, noExt, noExts, ren, renL, w64, -getElem?_pos]
  · have h23 := V99 N d false bs 0 2 (by omega) hb hr (by omega)
    rw [if_neg h2]
    rw [show ((0 : Nat) : Int) = 0 from rfl, show ((2 : Nat) : Int) = 2 from rfl, List.drop_zero] at h23
    have hv := val_range (bs.take 2) (fun x hx => hr x (List.mem_of_mem_take hx))
    have hl2 : (bs.take 2).length = 2 := by rw [List.length_take]; omega
    rw [hl2] at hv
    generalize val (bs.take 2) = v at *
    have w0 : IntKind.i64.wrap v = v := by rw [IntKind.wrap_i64]; omega
    have w1 : IntKind.i64.wrap ((bs.length : Int) - 2) = (bs.length : Int) - 2 := by rw [IntKind.wrap_i64]; omega
    have w2 : IntKind.i64.wrap (2 + v) = 2 + v := by rw [IntKind.wrap_i64]; omega
    rw [← hl] at w1 ⊢
    generalize byL bs = b at *
    by_cases c : v > (b.length : Int) - 2
    · rw [if_pos c]
      simp -implicitDefEqProofs (maxSteps := 1000000) (disch := first | omega | rfl) [m33, h23, w0, w1, w2, c, KS, getS, gS, zipN, refs, refsL, noExt, noExts, ren, renL, -getElem?_pos]
    · rw [if_neg c]
      simp -implicitDefEqProofs (maxSteps := 1000000) (disch := first | omega | rfl) [m33, h23, w0, w1, w2, c, KS, getS, gS, zipN, refs, refsL, noExt, noExts, ren, renL, -getElem?_pos]
end
section
attribute [local congr] bnd_cg bndO_cg br_cg
def sl11 (b : List (List PV)) (t : Bool) (at' : Int) (n i : Nat) : SL := [(0, .l false b), (2, .p 80 0 0 0 none), (5, .p 104 0 0 0 none), (7, .b t), (8, .i .i64 at'), (42, .sl 376 0 0 n), (43, .i .i64 n), (44, .i .i64 i)]
def ob11 (k : Int) (h : Fra) : OB := [(80, fbox zeF), (104, fbox h), (376, rowS (slF 104 k) (cpF k))]
set_option maxHeartbeats 4000000 in
theorem s11_0_0 (Φ : Sem') (N : Nat) (g : SL → OB → Option R) (b : List (List PV)) (v0 : Int) (hw : IntKind.i64.wrap v0 = v0) (H : Φ 35 [.l false b, .i .i64 3, .i .i64 1] [] = some (.tup [.i .u64 v0, .i .i64 4], [])) :
    m20b0 Φ N [] g (sl11 b false 3 2 0) (ob11 0 ⟨0, 0, 0, 0, 0, 0, 0, 0, z32⟩) = g (sl11 b false 4 2 1) (ob11 0 ⟨0, v0, 0, 0, 0, 0, 0, 0, z32⟩) := by
  simp only [sl11, ob11, fbox, frC, rowS, sU, sN, box, slF, cpF, zeF]
  generalize uL z32 = z at *
  simp -implicitDefEqProofs (maxSteps := 1000000) (disch := first | omega | rfl) [m20b0, H, hw, KF, KS, getS, getO, gS, dropW, takeW, wds, sea, seaL, refs, refsL, refsEls, refsO, noExt, noExts, ren, renL, keepO, keepS, keysO, refsS, refsOB, headC, boxO, putW, w64, -getElem?_pos, k_cnt, k_cnt0]
set_option maxHeartbeats 4000000 in
theorem x11_0_0 (Φ : Sem') (N : Nat) (g : SL → OB → Option R) (b : List (List PV)) (H : Φ 35 [.l false b, .i .i64 3, .i .i64 1] [] = some (.tup [.i .u64 0, .i .i64 (-1)], [])) :
    m20b0 Φ N [] g (sl11 b false 3 2 0) (ob11 0 ⟨0, 0, 0, 0, 0, 0, 0, 0, z32⟩) = some (.tup [.agg (frC zeF), .i .i64 3], []) := by
  have hu := uz32
  simp only [sl11, ob11, fbox, frC, rowS, sU, sN, box, slF, cpF, zeF]
  generalize uL z32 = z at *
  subst hu
  simp -implicitDefEqProofs (maxSteps := 1000000) (disch := first | omega | rfl) [m20b0, H, KF, KS, getS, getO, gS, dropW, takeW, wds, sea, seaL, refs, refsL, refsEls, refsO, noExt, noExts, ren, renL, keepO, keepS, keysO, refsS, refsOB, headC, boxO, putW, w64, -getElem?_pos, k_cnt, k_cnt0]
set_option maxHeartbeats 4000000 in
theorem s11_0_1 (Φ : Sem') (N : Nat) (g : SL → OB → Option R) (b : List (List PV)) (v0 v1 : Int) (H : Φ 35 [.l false b, .i .i64 4, .i .i64 8] [] = some (.tup [.i .u64 v1, .i .i64 12], [])) :
    m20b0 Φ N [] g (sl11 b false 4 2 1) (ob11 0 ⟨0, v0, 0, 0, 0, 0, 0, 0, z32⟩) = g (sl11 b false 12 2 2) (ob11 0 ⟨0, v0, 0, v1, 0, 0, 0, 0, z32⟩) := by
  simp only [sl11, ob11, fbox, frC, rowS, sU, sN, box, slF, cpF, zeF]
  generalize uL z32 = z at *
  simp -implicitDefEqProofs (maxSteps := 1000000) (disch := first | omega | rfl) [m20b0, H, KF, KS, getS, getO, gS, dropW, takeW, wds, sea, seaL, refs, refsL, refsEls, refsO, noExt, noExts, ren, renL, keepO, keepS, keysO, refsS, refsOB, headC, boxO, putW, w64, -getElem?_pos, k_cnt, k_cnt0]
set_option maxHeartbeats 4000000 in
theorem x11_0_1 (Φ : Sem') (N : Nat) (g : SL → OB → Option R) (b : List (List PV)) (v0 : Int) (H : Φ 35 [.l false b, .i .i64 4, .i .i64 8] [] = some (.tup [.i .u64 0, .i .i64 (-1)], [])) :
    m20b0 Φ N [] g (sl11 b false 4 2 1) (ob11 0 ⟨0, v0, 0, 0, 0, 0, 0, 0, z32⟩) = some (.tup [.agg (frC zeF), .i .i64 3], []) := by
  have hu := uz32
  simp only [sl11, ob11, fbox, frC, rowS, sU, sN, box, slF, cpF, zeF]
  generalize uL z32 = z at *
  subst hu
  simp -implicitDefEqProofs (maxSteps := 1000000) (disch := first | omega | rfl) [m20b0, H, KF, KS, getS, getO, gS, dropW, takeW, wds, sea, seaL, refs, refsL, refsEls, refsO, noExt, noExts, ren, renL, keepO, keepS, keysO, refsS, refsOB, headC, boxO, putW, w64, -getElem?_pos, k_cnt, k_cnt0]
set_option maxHeartbeats 4000000 in
theorem s11_1_0 (Φ : Sem') (N : Nat) (g : SL → OB → Option R) (b : List (List PV)) (v0 : Int) (H : Φ 35 [.l false b, .i .i64 3, .i .i64 8] [] = some (.tup [.i .u64 v0, .i .i64 11], [])) :
    m20b0 Φ N [] g (sl11 b false 3 2 0) (ob11 1 ⟨1, 0, 0, 0, 0, 0, 0, 0, z32⟩) = g (sl11 b false 11 2 1) (ob11 1 ⟨1, 0, v0, 0, 0, 0, 0, 0, z32⟩) := by
  simp only [sl11, ob11, fbox, frC, rowS, sU, sN, box, slF, cpF, zeF]
  generalize uL z32 = z at *
  simp -implicitDefEqProofs (maxSteps := 1000000) (disch := first | omega | rfl) [m20b0, H, KF, KS, getS, getO, gS, dropW, takeW, wds, sea, seaL, refs, refsL, refsEls, refsO, noExt, noExts, ren, renL, keepO, keepS, keysO, refsS, refsOB, headC, boxO, putW, w64, -getElem?_pos, k_cnt, k_cnt0]
set_option maxHeartbeats 4000000 in
theorem x11_1_0 (Φ : Sem') (N : Nat) (g : SL → OB → Option R) (b : List (List PV)) (H : Φ 35 [.l false b, .i .i64 3, .i .i64 8] [] = some (.tup [.i .u64 0, .i .i64 (-1)], [])) :
    m20b0 Φ N [] g (sl11 b false 3 2 0) (ob11 1 ⟨1, 0, 0, 0, 0, 0, 0, 0, z32⟩) = some (.tup [.agg (frC zeF), .i .i64 3], []) := by
  have hu := uz32
  simp only [sl11, ob11, fbox, frC, rowS, sU, sN, box, slF, cpF, zeF]
  generalize uL z32 = z at *
  subst hu
  simp -implicitDefEqProofs (maxSteps := 1000000) (disch := first | omega | rfl) [m20b0, H, KF, KS, getS, getO, gS, dropW, takeW, wds, sea, seaL, refs, refsL, refsEls, refsO, noExt, noExts, ren, renL, keepO, keepS, keysO, refsS, refsOB, headC, boxO, putW, w64, -getElem?_pos, k_cnt, k_cnt0]
set_option maxHeartbeats 4000000 in
theorem s11_1_1 (Φ : Sem') (N : Nat) (g : SL → OB → Option R) (b : List (List PV)) (v0 v1 : Int) (hw : IntKind.i64.wrap v1 = v1) (H : Φ 35 [.l false b, .i .i64 11, .i .i64 4] [] = some (.tup [.i .u64 v1, .i .i64 15], [])) :
    m20b0 Φ N [] g (sl11 b false 11 2 1) (ob11 1 ⟨1, 0, v0, 0, 0, 0, 0, 0, z32⟩) = g (sl11 b false 15 2 2) (ob11 1 ⟨1, 0, v0, 0, v1, 0, 0, 0, z32⟩) := by
  simp only [sl11, ob11, fbox, frC, rowS, sU, sN, box, slF, cpF, zeF]
  generalize uL z32 = z at *
  simp -implicitDefEqProofs (maxSteps := 1000000) (disch := first | omega | rfl) [m20b0, H, hw, KF, KS, getS, getO, gS, dropW, takeW, wds, sea, seaL, refs, refsL, refsEls, refsO, noExt, noExts, ren, renL, keepO, keepS, keysO, refsS, refsOB, headC, boxO, putW, w64, -getElem?_pos, k_cnt, k_cnt0]
set_option maxHeartbeats 4000000 in
theorem x11_1_1 (Φ : Sem') (N : Nat) (g : SL → OB → Option R) (b : List (List PV)) (v0 : Int) (H : Φ 35 [.l false b, .i .i64 11, .i .i64 4] [] = some (.tup [.i .u64 0, .i .i64 (-1)], [])) :
    m20b0 Φ N [] g (sl11 b false 11 2 1) (ob11 1 ⟨1, 0, v0, 0, 0, 0, 0, 0, z32⟩) = some (.tup [.agg (frC zeF), .i .i64 3], []) := by
  have hu := uz32
  simp only [sl11, ob11, fbox, frC, rowS, sU, sN, box, slF, cpF, zeF]
  generalize uL z32 = z at *
  subst hu
  simp -implicitDefEqProofs (maxSteps := 1000000) (disch := first | omega | rfl) [m20b0, H, KF, KS, getS, getO, gS, dropW, takeW, wds, sea, seaL, refs, refsL, refsEls, refsO, noExt, noExts, ren, renL, keepO, keepS, keysO, refsS, refsOB, headC, boxO, putW, w64, -getElem?_pos, k_cnt, k_cnt0]
set_option maxHeartbeats 4000000 in
theorem s11_2_0 (Φ : Sem') (N : Nat) (g : SL → OB → Option R) (b : List (List PV)) (v0 : Int) (H : Φ 35 [.l false b, .i .i64 3, .i .i64 8] [] = some (.tup [.i .u64 v0, .i .i64 11], [])) :
    m20b0 Φ N [] g (sl11 b true 3 1 0) (ob11 2 ⟨2, 0, 0, 0, 0, 0, 0, 0, z32⟩) = g (sl11 b true 11 1 1) (ob11 2 ⟨2, 0, v0, 0, 0, 0, 0, 0, z32⟩) := by
  simp only [sl11, ob11, fbox, frC, rowS, sU, sN, box, slF, cpF, zeF]
  generalize uL z32 = z at *
  simp -implicitDefEqProofs (maxSteps := 1000000) (disch := first | omega | rfl) [m20b0, H, KF, KS, getS, getO, gS, dropW, takeW, wds, sea, seaL, refs, refsL, refsEls, refsO, noExt, noExts, ren, renL, keepO, keepS, keysO, refsS, refsOB, headC, boxO, putW, w64, -getElem?_pos, k_cnt, k_cnt0]
set_option maxHeartbeats 4000000 in
theorem x11_2_0 (Φ : Sem') (N : Nat) (g : SL → OB → Option R) (b : List (List PV)) (H : Φ 35 [.l false b, .i .i64 3, .i .i64 8] [] = some (.tup [.i .u64 0, .i .i64 (-1)], [])) :
    m20b0 Φ N [] g (sl11 b true 3 1 0) (ob11 2 ⟨2, 0, 0, 0, 0, 0, 0, 0, z32⟩) = some (.tup [.agg (frC zeF), .i .i64 3], []) := by
  have hu := uz32
  simp only [sl11, ob11, fbox, frC, rowS, sU, sN, box, slF, cpF, zeF]
  generalize uL z32 = z at *
  subst hu
  simp -implicitDefEqProofs (maxSteps := 1000000) (disch := first | omega | rfl) [m20b0, H, KF, KS, getS, getO, gS, dropW, takeW, wds, sea, seaL, refs, refsL, refsEls, refsO, noExt, noExts, ren, renL, keepO, keepS, keysO, refsS, refsOB, headC, boxO, putW, w64, -getElem?_pos, k_cnt, k_cnt0]
set_option maxHeartbeats 4000000 in
theorem s11_3_0 (Φ : Sem') (N : Nat) (g : SL → OB → Option R) (b : List (List PV)) (v0 : Int) (H : Φ 35 [.l false b, .i .i64 3, .i .i64 8] [] = some (.tup [.i .u64 v0, .i .i64 11], [])) :
    m20b0 Φ N [] g (sl11 b true 3 1 0) (ob11 3 ⟨3, 0, 0, 0, 0, 0, 0, 0, z32⟩) = g (sl11 b true 11 1 1) (ob11 3 ⟨3, 0, v0, 0, 0, 0, 0, 0, z32⟩) := by
  simp only [sl11, ob11, fbox, frC, rowS, sU, sN, box, slF, cpF, zeF]
  generalize uL z32 = z at *
  simp -implicitDefEqProofs (maxSteps := 1000000) (disch := first | omega | rfl) [m20b0, H, KF, KS, getS, getO, gS, dropW, takeW, wds, sea, seaL, refs, refsL, refsEls, refsO, noExt, noExts, ren, renL, keepO, keepS, keysO, refsS, refsOB, headC, boxO, putW, w64, -getElem?_pos, k_cnt, k_cnt0]
set_option maxHeartbeats 4000000 in
theorem x11_3_0 (Φ : Sem') (N : Nat) (g : SL → OB → Option R) (b : List (List PV)) (H : Φ 35 [.l false b, .i .i64 3, .i .i64 8] [] = some (.tup [.i .u64 0, .i .i64 (-1)], [])) :
    m20b0 Φ N [] g (sl11 b true 3 1 0) (ob11 3 ⟨3, 0, 0, 0, 0, 0, 0, 0, z32⟩) = some (.tup [.agg (frC zeF), .i .i64 3], []) := by
  have hu := uz32
  simp only [sl11, ob11, fbox, frC, rowS, sU, sN, box, slF, cpF, zeF]
  generalize uL z32 = z at *
  subst hu
  simp -implicitDefEqProofs (maxSteps := 1000000) (disch := first | omega | rfl) [m20b0, H, KF, KS, getS, getO, gS, dropW, takeW, wds, sea, seaL, refs, refsL, refsEls, refsO, noExt, noExts, ren, renL, keepO, keepS, keysO, refsS, refsOB, headC, boxO, putW, w64, -getElem?_pos, k_cnt, k_cnt0]
set_option maxHeartbeats 4000000 in
theorem s11_4_0 (Φ : Sem') (N : Nat) (g : SL → OB → Option R) (b : List (List PV)) (v0 : Int) (H : Φ 35 [.l false b, .i .i64 3, .i .i64 8] [] = some (.tup [.i .u64 v0, .i .i64 11], [])) :
    m20b0 Φ N [] g (sl11 b true 3 4 0) (ob11 4 ⟨4, 0, 0, 0, 0, 0, 0, 0, z32⟩) = g (sl11 b true 11 4 1) (ob11 4 ⟨4, 0, v0, 0, 0, 0, 0, 0, z32⟩) := by
  simp only [sl11, ob11, fbox, frC, rowS, sU, sN, box, slF, cpF, zeF]
  generalize uL z32 = z at *
  simp -implicitDefEqProofs (maxSteps := 1000000) (disch := first | omega | rfl) [m20b0, H, KF, KS, getS, getO, gS, dropW, takeW, wds, sea, seaL, refs, refsL, refsEls, refsO, noExt, noExts, ren, renL, keepO, keepS, keysO, refsS, refsOB, headC, boxO, putW, w64, -getElem?_pos, k_cnt, k_cnt0]
set_option maxHeartbeats 4000000 in
theorem x11_4_0 (Φ : Sem') (N : Nat) (g : SL → OB → Option R) (b : List (List PV)) (H : Φ 35 [.l false b, .i .i64 3, .i .i64 8] [] = some (.tup [.i .u64 0, .i .i64 (-1)], [])) :
    m20b0 Φ N [] g (sl11 b true 3 4 0) (ob11 4 ⟨4, 0, 0, 0, 0, 0, 0, 0, z32⟩) = some (.tup [.agg (frC zeF), .i .i64 3], []) := by
  have hu := uz32
  simp only [sl11, ob11, fbox, frC, rowS, sU, sN, box, slF, cpF, zeF]
  generalize uL z32 = z at *
  subst hu
  simp -implicitDefEqProofs (maxSteps := 1000000) (disch := first | omega | rfl) [m20b0, H, KF, KS, getS, getO, gS, dropW, takeW, wds, sea, seaL, refs, refsL, refsEls, refsO, noExt, noExts, ren, renL, keepO, keepS, keysO, refsS, refsOB, headC, boxO, putW, w64, -getElem?_pos, k_cnt, k_cnt0]
set_option maxHeartbeats 4000000 in
theorem s11_4_1 (Φ : Sem') (N : Nat) (g : SL → OB → Option R) (b : List (List PV)) (v0 v1 : Int) (H : Φ 35 [.l false b, .i .i64 11, .i .i64 8] [] = some (.tup [.i .u64 v1, .i .i64 19], [])) :
    m20b0 Φ N [] g (sl11 b true 11 4 1) (ob11 4 ⟨4, 0, v0, 0, 0, 0, 0, 0, z32⟩) = g (sl11 b true 19 4 2) (ob11 4 ⟨4, 0, v0, 0, 0, v1, 0, 0, z32⟩) := by
  simp only [sl11, ob11, fbox, frC, rowS, sU, sN, box, slF, cpF, zeF]
  generalize uL z32 = z at *
  simp -implicitDefEqProofs (maxSteps := 1000000) (disch := first | omega | rfl) [m20b0, H, KF, KS, getS, getO, gS, dropW, takeW, wds, sea, seaL, refs, refsL, refsEls, refsO, noExt, noExts, ren, renL, keepO, keepS, keysO, refsS, refsOB, headC, boxO, putW, w64, -getElem?_pos, k_cnt, k_cnt0]
set_option maxHeartbeats 4000000 in
theorem x11_4_1 (Φ : Sem') (N : Nat) (g : SL → OB → Option R) (b : List (List PV)) (v0 : Int) (H : Φ 35 [.l false b, .i .i64 11, .i .i64 8] [] = some (.tup [.i .u64 0, .i .i64 (-1)], [])) :
    m20b0 Φ N [] g (sl11 b true 11 4 1) (ob11 4 ⟨4, 0, v0, 0, 0, 0, 0, 0, z32⟩) = some (.tup [.agg (frC zeF), .i .i64 3], []) := by
  have hu := uz32
  simp only [sl11, ob11, fbox, frC, rowS, sU, sN, box, slF, cpF, zeF]
  generalize uL z32 = z at *
  subst hu
  simp -implicitDefEqProofs (maxSteps := 1000000) (disch := first | omega | rfl) [m20b0, H, KF, KS, getS, getO, gS, dropW, takeW, wds, sea, seaL, refs, refsL, refsEls, refsO, noExt, noExts, ren, renL, keepO, keepS, keysO, refsS, refsOB, headC, boxO, putW, w64, -getElem?_pos, k_cnt, k_cnt0]
set_option maxHeartbeats 4000000 in
theorem s11_4_2 (Φ : Sem') (N : Nat) (g : SL → OB → Option R) (b : List (List PV)) (v0 v1 v2 : Int) (hw : IntKind.i64.wrap v2 = v2) (H : Φ 35 [.l false b, .i .i64 19, .i .i64 1] [] = some (.tup [.i .u64 v2, .i .i64 20], [])) :
    m20b0 Φ N [] g (sl11 b true 19 4 2) (ob11 4 ⟨4, 0, v0, 0, 0, v1, 0, 0, z32⟩) = g (sl11 b true 20 4 3) (ob11 4 ⟨4, 0, v0, 0, 0, v1, v2, 0, z32⟩) := by
  simp only [sl11, ob11, fbox, frC, rowS, sU, sN, box, slF, cpF, zeF]
  generalize uL z32 = z at *
  simp -implicitDefEqProofs (maxSteps := 1000000) (disch := first | omega | rfl) [m20b0, H, hw, KF, KS, getS, getO, gS, dropW, takeW, wds, sea, seaL, refs, refsL, refsEls, refsO, noExt, noExts, ren, renL, keepO, keepS, keysO, refsS, refsOB, headC, boxO, putW, w64, -getElem?_pos, k_cnt, k_cnt0]
set_option maxHeartbeats 4000000 in
theorem x11_4_2 (Φ : Sem') (N : Nat) (g : SL → OB → Option R) (b : List (List PV)) (v0 v1 : Int) (H : Φ 35 [.l false b, .i .i64 19, .i .i64 1] [] = some (.tup [.i .u64 0, .i .i64 (-1)], [])) :
    m20b0 Φ N [] g (sl11 b true 19 4 2) (ob11 4 ⟨4, 0, v0, 0, 0, v1, 0, 0, z32⟩) = some (.tup [.agg (frC zeF), .i .i64 3], []) := by
  have hu := uz32
  simp only [sl11, ob11, fbox, frC, rowS, sU, sN, box, slF, cpF, zeF]
  generalize uL z32 = z at *
  subst hu
  simp -implicitDefEqProofs (maxSteps := 1000000) (disch := first | omega | rfl) [m20b0, H, KF, KS, getS, getO, gS, dropW, takeW, wds, sea, seaL, refs, refsL, refsEls, refsO, noExt, noExts, ren, renL, keepO, keepS, keysO, refsS, refsOB, headC, boxO, putW, w64, -getElem?_pos, k_cnt, k_cnt0]
set_option maxHeartbeats 4000000 in
theorem s11_4_3 (Φ : Sem') (N : Nat) (g : SL → OB → Option R) (b : List (List PV)) (v0 v1 v2 v3 : Int) (hw : IntKind.i64.wrap v3 = v3) (H : Φ 35 [.l false b, .i .i64 20, .i .i64 2] [] = some (.tup [.i .u64 v3, .i .i64 22], [])) :
    m20b0 Φ N [] g (sl11 b true 20 4 3) (ob11 4 ⟨4, 0, v0, 0, 0, v1, v2, 0, z32⟩) = g (sl11 b true 22 4 4) (ob11 4 ⟨4, 0, v0, 0, 0, v1, v2, v3, z32⟩) := by
  simp only [sl11, ob11, fbox, frC, rowS, sU, sN, box, slF, cpF, zeF]
  generalize uL z32 = z at *
  simp -implicitDefEqProofs (maxSteps := 1000000) (disch := first | omega | rfl) [m20b0, H, hw, KF, KS, getS, getO, gS, dropW, takeW, wds, sea, seaL, refs, refsL, refsEls, refsO, noExt, noExts, ren, renL, keepO, keepS, keysO, refsS, refsOB, headC, boxO, putW, w64, -getElem?_pos, k_cnt, k_cnt0]
set_option maxHeartbeats 4000000 in
theorem x11_4_3 (Φ : Sem') (N : Nat) (g : SL → OB → Option R) (b : List (List PV)) (v0 v1 v2 : Int) (H : Φ 35 [.l false b, .i .i64 20, .i .i64 2] [] = some (.tup [.i .u64 0, .i .i64 (-1)], [])) :
    m20b0 Φ N [] g (sl11 b true 20 4 3) (ob11 4 ⟨4, 0, v0, 0, 0, v1, v2, 0, z32⟩) = some (.tup [.agg (frC zeF), .i .i64 3], []) := by
  have hu := uz32
  simp only [sl11, ob11, fbox, frC, rowS, sU, sN, box, slF, cpF, zeF]
  generalize uL z32 = z at *
  subst hu
  simp -implicitDefEqProofs (maxSteps := 1000000) (disch := first | omega | rfl) [m20b0, H, KF, KS, getS, getO, gS, dropW, takeW, wds, sea, seaL, refs, refsL, refsEls, refsO, noExt, noExts, ren, renL, keepO, keepS, keysO, refsS, refsOB, headC, boxO, putW, w64, -getElem?_pos, k_cnt, k_cnt0]
set_option maxHeartbeats 4000000 in
theorem s11_5_0 (Φ : Sem') (N : Nat) (g : SL → OB → Option R) (b : List (List PV)) (v0 : Int) (H : Φ 35 [.l false b, .i .i64 3, .i .i64 8] [] = some (.tup [.i .u64 v0, .i .i64 11], [])) :
    m20b0 Φ N [] g (sl11 b true 3 4 0) (ob11 5 ⟨5, 0, 0, 0, 0, 0, 0, 0, z32⟩) = g (sl11 b true 11 4 1) (ob11 5 ⟨5, 0, v0, 0, 0, 0, 0, 0, z32⟩) := by
  simp only [sl11, ob11, fbox, frC, rowS, sU, sN, box, slF, cpF, zeF]
  generalize uL z32 = z at *
  simp -implicitDefEqProofs (maxSteps := 1000000) (disch := first | omega | rfl) [m20b0, H, KF, KS, getS, getO, gS, dropW, takeW, wds, sea, seaL, refs, refsL, refsEls, refsO, noExt, noExts, ren, renL, keepO, keepS, keysO, refsS, refsOB, headC, boxO, putW, w64, -getElem?_pos, k_cnt, k_cnt0]
set_option maxHeartbeats 4000000 in
theorem x11_5_0 (Φ : Sem') (N : Nat) (g : SL → OB → Option R) (b : List (List PV)) (H : Φ 35 [.l false b, .i .i64 3, .i .i64 8] [] = some (.tup [.i .u64 0, .i .i64 (-1)], [])) :
    m20b0 Φ N [] g (sl11 b true 3 4 0) (ob11 5 ⟨5, 0, 0, 0, 0, 0, 0, 0, z32⟩) = some (.tup [.agg (frC zeF), .i .i64 3], []) := by
  have hu := uz32
  simp only [sl11, ob11, fbox, frC, rowS, sU, sN, box, slF, cpF, zeF]
  generalize uL z32 = z at *
  subst hu
  simp -implicitDefEqProofs (maxSteps := 1000000) (disch := first | omega | rfl) [m20b0, H, KF, KS, getS, getO, gS, dropW, takeW, wds, sea, seaL, refs, refsL, refsEls, refsO, noExt, noExts, ren, renL, keepO, keepS, keysO, refsS, refsOB, headC, boxO, putW, w64, -getElem?_pos, k_cnt, k_cnt0]
set_option maxHeartbeats 4000000 in
theorem s11_5_1 (Φ : Sem') (N : Nat) (g : SL → OB → Option R) (b : List (List PV)) (v0 v1 : Int) (H : Φ 35 [.l false b, .i .i64 11, .i .i64 8] [] = some (.tup [.i .u64 v1, .i .i64 19], [])) :
    m20b0 Φ N [] g (sl11 b true 11 4 1) (ob11 5 ⟨5, 0, v0, 0, 0, 0, 0, 0, z32⟩) = g (sl11 b true 19 4 2) (ob11 5 ⟨5, 0, v0, 0, 0, v1, 0, 0, z32⟩) := by
  simp only [sl11, ob11, fbox, frC, rowS, sU, sN, box, slF, cpF, zeF]
  generalize uL z32 = z at *
  simp -implicitDefEqProofs (maxSteps := 1000000) (disch := first | omega | rfl) [m20b0, H, KF, KS, getS, getO, gS, dropW, takeW, wds, sea, seaL, refs, refsL, refsEls, refsO, noExt, noExts, ren, renL, keepO, keepS, keysO, refsS, refsOB, headC, boxO, putW, w64, -getElem?_pos, k_cnt, k_cnt0]
set_option maxHeartbeats 4000000 in
theorem x11_5_1 (Φ : Sem') (N : Nat) (g : SL → OB → Option R) (b : List (List PV)) (v0 : Int) (H : Φ 35 [.l false b, .i .i64 11, .i .i64 8] [] = some (.tup [.i .u64 0, .i .i64 (-1)], [])) :
    m20b0 Φ N [] g (sl11 b true 11 4 1) (ob11 5 ⟨5, 0, v0, 0, 0, 0, 0, 0, z32⟩) = some (.tup [.agg (frC zeF), .i .i64 3], []) := by
  have hu := uz32
  simp only [sl11, ob11, fbox, frC, rowS, sU, sN, box, slF, cpF, zeF]
  generalize uL z32 = z at *
  subst hu
  simp -implicitDefEqProofs (maxSteps := 1000000) (disch := first | omega | rfl) [m20b0, H, KF, KS, getS, getO, gS, dropW, takeW, wds, sea, seaL, refs, refsL, refsEls, refsO, noExt, noExts, ren, renL, keepO, keepS, keysO, refsS, refsOB, headC, boxO, putW, w64, -getElem?_pos, k_cnt, k_cnt0]
set_option maxHeartbeats 4000000 in
theorem s11_5_2 (Φ : Sem') (N : Nat) (g : SL → OB → Option R) (b : List (List PV)) (v0 v1 v2 : Int) (hw : IntKind.i64.wrap v2 = v2) (H : Φ 35 [.l false b, .i .i64 19, .i .i64 1] [] = some (.tup [.i .u64 v2, .i .i64 20], [])) :
    m20b0 Φ N [] g (sl11 b true 19 4 2) (ob11 5 ⟨5, 0, v0, 0, 0, v1, 0, 0, z32⟩) = g (sl11 b true 20 4 3) (ob11 5 ⟨5, 0, v0, 0, 0, v1, v2, 0, z32⟩) := by
  simp only [sl11, ob11, fbox, frC, rowS, sU, sN, box, slF, cpF, zeF]
  generalize uL z32 = z at *
  simp -implicitDefEqProofs (maxSteps := 1000000) (disch := first | omega | rfl) [m20b0, H, hw, KF, KS, getS, getO, gS, dropW, takeW, wds, sea, seaL, refs, refsL, refsEls, refsO, noExt, noExts, ren, renL, keepO, keepS, keysO, refsS, refsOB, headC, boxO, putW, w64, -getElem?_pos, k_cnt, k_cnt0]
set_option maxHeartbeats 4000000 in
theorem x11_5_2 (Φ : Sem') (N : Nat) (g : SL → OB → Option R) (b : List (List PV)) (v0 v1 : Int) (H : Φ 35 [.l false b, .i .i64 19, .i .i64 1] [] = some (.tup [.i .u64 0, .i .i64 (-1)], [])) :
    m20b0 Φ N [] g (sl11 b true 19 4 2) (ob11 5 ⟨5, 0, v0, 0, 0, v1, 0, 0, z32⟩) = some (.tup [.agg (frC zeF), .i .i64 3], []) := by
  have hu := uz32
  simp only [sl11, ob11, fbox, frC, rowS, sU, sN, box, slF, cpF, zeF]
  generalize uL z32 = z at *
  subst hu
  simp -implicitDefEqProofs (maxSteps := 1000000) (disch := first | omega | rfl) [m20b0, H, KF, KS, getS, getO, gS, dropW, takeW, wds, sea, seaL, refs, refsL, refsEls, refsO, noExt, noExts, ren, renL, keepO, keepS, keysO, refsS, refsOB, headC, boxO, putW, w64, -getElem?_pos, k_cnt, k_cnt0]
set_option maxHeartbeats 4000000 in
theorem s11_5_3 (Φ : Sem') (N : Nat) (g : SL → OB → Option R) (b : List (List PV)) (v0 v1 v2 v3 : Int) (hw : IntKind.i64.wrap v3 = v3) (H : Φ 35 [.l false b, .i .i64 20, .i .i64 2] [] = some (.tup [.i .u64 v3, .i .i64 22], [])) :
    m20b0 Φ N [] g (sl11 b true 20 4 3) (ob11 5 ⟨5, 0, v0, 0, 0, v1, v2, 0, z32⟩) = g (sl11 b true 22 4 4) (ob11 5 ⟨5, 0, v0, 0, 0, v1, v2, v3, z32⟩) := by
  simp only [sl11, ob11, fbox, frC, rowS, sU, sN, box, slF, cpF, zeF]
  generalize uL z32 = z at *
  simp -implicitDefEqProofs (maxSteps := 1000000) (disch := first | omega | rfl) [m20b0, H, hw, KF, KS, getS, getO, gS, dropW, takeW, wds, sea, seaL, refs, refsL, refsEls, refsO, noExt, noExts, ren, renL, keepO, keepS, keysO, refsS, refsOB, headC, boxO, putW, w64, -getElem?_pos, k_cnt, k_cnt0]
set_option maxHeartbeats 4000000 in
theorem x11_5_3 (Φ : Sem') (N : Nat) (g : SL → OB → Option R) (b : List (List PV)) (v0 v1 v2 : Int) (H : Φ 35 [.l false b, .i .i64 20, .i .i64 2] [] = some (.tup [.i .u64 0, .i .i64 (-1)], [])) :
    m20b0 Φ N [] g (sl11 b true 20 4 3) (ob11 5 ⟨5, 0, v0, 0, 0, v1, v2, 0, z32⟩) = some (.tup [.agg (frC zeF), .i .i64 3], []) := by
  have hu := uz32
  simp only [sl11, ob11, fbox, frC, rowS, sU, sN, box, slF, cpF, zeF]
  generalize uL z32 = z at *
  subst hu
  simp -implicitDefEqProofs (maxSteps := 1000000) (disch := first | omega | rfl) [m20b0, H, KF, KS, getS, getO, gS, dropW, takeW, wds, sea, seaL, refs, refsL, refsEls, refsO, noExt, noExts, ren, renL, keepO, keepS, keysO, refsS, refsOB, headC, boxO, putW, w64, -getElem?_pos, k_cnt, k_cnt0]
set_option maxHeartbeats 4000000 in
theorem s11_6_0 (Φ : Sem') (N : Nat) (g : SL → OB → Option R) (b : List (List PV)) (v0 : Int) (hw : IntKind.i64.wrap v0 = v0) (H : Φ 35 [.l false b, .i .i64 3, .i .i64 1] [] = some (.tup [.i .u64 v0, .i .i64 4], [])) :
    m20b0 Φ N [] g (sl11 b false 3 1 0) (ob11 6 ⟨6, 0, 0, 0, 0, 0, 0, 0, z32⟩) = g (sl11 b false 4 1 1) (ob11 6 ⟨6, 0, 0, 0, 0, 0, v0, 0, z32⟩) := by
  simp only [sl11, ob11, fbox, frC, rowS, sU, sN, box, slF, cpF, zeF]
  generalize uL z32 = z at *
  simp -implicitDefEqProofs (maxSteps := 1000000) (disch := first | omega | rfl) [m20b0, H, hw, KF, KS, getS, getO, gS, dropW, takeW, wds, sea, seaL, refs, refsL, refsEls, refsO, noExt, noExts, ren, renL, keepO, keepS, keysO, refsS, refsOB, headC, boxO, putW, w64, -getElem?_pos, k_cnt, k_cnt0]
set_option maxHeartbeats 4000000 in
theorem x11_6_0 (Φ : Sem') (N : Nat) (g : SL → OB → Option R) (b : List (List PV)) (H : Φ 35 [.l false b, .i .i64 3, .i .i64 1] [] = some (.tup [.i .u64 0, .i .i64 (-1)], [])) :
    m20b0 Φ N [] g (sl11 b false 3 1 0) (ob11 6 ⟨6, 0, 0, 0, 0, 0, 0, 0, z32⟩) = some (.tup [.agg (frC zeF), .i .i64 3], []) := by
  have hu := uz32
  simp only [sl11, ob11, fbox, frC, rowS, sU, sN, box, slF, cpF, zeF]
  generalize uL z32 = z at *
  subst hu
  simp -implicitDefEqProofs (maxSteps := 1000000) (disch := first | omega | rfl) [m20b0, H, KF, KS, getS, getO, gS, dropW, takeW, wds, sea, seaL, refs, refsL, refsEls, refsO, noExt, noExts, ren, renL, keepO, keepS, keysO, refsS, refsOB, headC, boxO, putW, w64, -getElem?_pos, k_cnt, k_cnt0]
end
section
attribute [local congr] bnd_cg bndO_cg br_cg
theorem scal_by (ys : List Int) : scalEls (byL ys) = true := by
  induction ys with
  | nil => rfl
  | cons x r ih => simpa [byL, scalEls, scal] using ih
theorem flat_take (ys : List Int) (n : Nat) : ((byL ys).take n).flatten = uL (ys.take n) := by
  simp only [byL, uL, ← List.map_take]
  induction ys.take n with
  | nil => rfl
  | cons x r ih => simp only [List.map_cons, List.flatten_cons, ih]; rfl
theorem cpy_tag (ob : OB) (h : Fra) (hz : h.tag = z32) (ys : List Int) (ho : getO ob 104 = some (fbox h)) : cpy ob 1 (.bs 104 8 0 32) (.l false (byL ys)) = some (.i .i64 ((min ys.length 32 : Nat) : Int), [(104, fbox { h with tag := ys.take 32 ++ z32.drop (min ys.length 32) })]) := by
  obtain ⟨a1, a2, a3, a4, a5, a6, a7, a8, a9⟩ := h
  simp only at hz
  subst hz
  have hl := byL_len ys
  have e1 : ys.take (min ys.length 32) = ys.take 32 := by
    rcases Nat.le_total ys.length 32 with h | h
    · rw [Nat.min_eq_left h, List.take_of_length_le (Nat.le_refl _), List.take_of_length_le h]
    · rw [Nat.min_eq_right h]
  have e2 : uL (ys.take 32 ++ z32.drop (min ys.length 32)) = uL (ys.take 32) ++ (uL z32).drop (min ys.length 32) := by simp [uL]
  have hz : (uL z32).length = 32 := by rw [uL_len]; rfl
  have hs := scal_by ys
  have hf := flat_take ys (min ys.length 32)
  rw [e1] at hf
  rw [← hl] at hf e2 ⊢
  simp only [fbox, frC, box, e2] at ho ⊢
  generalize uL (ys.take 32) = t at *
  generalize uL z32 = z at *
  generalize byL ys = b at *
  simp [cpy, cont, contL, cpC, cpX, cpyB, cpyE, cpyD, ho, dropW, takeW, wd, hs, hf, hz]
def ob11x (S : List (Nat × Obj')) (h : Fra) : OB := (80, fbox zeF) :: (104, fbox h) :: S
def sl11x (r : PV) (b : List (List PV)) (t : Bool) (at' : Int) (n : Int) : SL := [(0, .l false b), (2, .p 80 0 0 0 none), (5, .p 104 0 0 0 none), (7, .b t), (8, .i .i64 at'), (42, r), (43, .i .i64 n), (44, .i .i64 n)]
def errR (e : Int) : Option R := some (.tup [.agg (frC zeF), .i .i64 e], [])
def outP (b : Bool) (p : List Int) : Option R := cond b (some (.tup [.sl 0 0 0 p.length, .b true], [row (byL p) 1 true])) (some (.tup [.sl 0 0 0 0, .b false], [row [] 1 true]))
set_option maxHeartbeats 8000000 in
theorem e11u (Φ : Sem') (N : Nat) (g : SL → OB → Option R) (bs p : List Int) (S : List (Nat × Obj')) (r : PV) (h : Fra) (pl : Bool) (n at' : Int) (hS : getO S 736 = none)
    (H1 : Φ 23 [.agg (frC h)] [] = outP pl p) (H2 : Φ 36 [.l false (byL p), .l false (byL bs)] [] = some (.b (decide (p = bs)), [])) :
    m20b0 Φ N [] g (sl11x r (byL bs) false at' n) (ob11x S h) = cond (pl && ((at' == (bs.length : Int)) && decide (p = bs))) (some (.tup [.agg (frC h), .i .i64 0], [])) (errR 3) := by
  have hl := byL_len bs
  have hp := byL_len p
  have hu := uz32
  have lt : ¬ n < n := Int.lt_irrefl n
  unfold outP at H1
  unfold errR
  rw [← hl]
  rw [← hp] at H1
  have tp : List.take (byL p).length (byL p) = byL p := List.take_length
  generalize decide (p = bs) = e at *
  generalize byL p = c at *
  generalize byL bs = b at *
  obtain ⟨a1, a2, a3, a4, a5, a6, a7, a8, a9⟩ := h
  simp only [sl11x, ob11x, fbox, frC, zeF, box, row] at *
  generalize uL a9 = q at *
  generalize uL z32 = z at *
  subst hu
  cases pl
  · simp only [cond_false] at H1
    simp -implicitDefEqProofs (maxSteps := 1000000) (disch := first | omega | rfl) [m20b0, hS, H1, lt, KS, getS, getO, gS, dropW, takeW, wds, sea, seaL, refs, refsL, noExt, noExts, ren, renL, boxO, putW, newOs, renO, noExtO, -getElem?_pos]
  · simp only [cond_true] at H1
    by_cases ha : at' = (b.length : Int)
    · have ha1 : (at' == (b.length : Int)) = true := by simp [ha]
      have ha2 : (at' != (b.length : Int)) = false := by simp [ha]
      cases e <;> simp -implicitDefEqProofs (maxSteps := 1000000) (disch := first | omega | rfl) [m20b0, hS, H1, H2, ha1, ha2, tp, lt, KS, getS, getO, gS, dropW, takeW, wds, sea, seaL, refs, refsL, noExt, noExts, ren, renL, boxO, putW, newOs, renO, noExtO, -getElem?_pos]
    · have ha1 : (at' == (b.length : Int)) = false := by simp [ha]
      have ha2 : (at' != (b.length : Int)) = true := by simp [ha]
      simp -implicitDefEqProofs (maxSteps := 1000000) (disch := first | omega | rfl) [m20b0, hS, H1, ha1, ha2, lt, KS, getS, getO, gS, dropW, takeW, wds, sea, seaL, refs, refsL, noExt, noExts, ren, renL, boxO, putW, newOs, renO, noExtO, -getElem?_pos]
theorem slc_at (ob : OB) (b : List (List PV)) (i : Nat) (hw : allW 1 b = true) (hi : i ≤ b.length) : slc ob (.slice 1) (.l false b) (some (.i .i64 i)) none none = some (.l false (b.drop i), []) := by
  have t : List.take b.length b = b := List.take_length
  simp [slc, hw, slL, optI, natI, hi, t]
theorem drop_by (ys : List Int) (i : Nat) : (byL ys).drop i = byL (ys.drop i) := by simp [byL]
set_option maxHeartbeats 8000000 in
theorem e11t (Φ : Sem') (N : Nat) (g : SL → OB → Option R) (bs p : List Int) (S : List (Nat × Obj')) (r : PV) (h : Fra) (pl : Bool) (n : Int) (i : Nat) (hz : h.tag = z32) (hi : i ≤ bs.length) (hb : bs.length < 1000000) (hS : getO S 736 = none)
    (H1 : Φ 23 [.agg (frC { h with tag := tgAt bs i })] [] = outP pl p) (H2 : Φ 36 [.l false (byL p), .l false (byL bs)] [] = some (.b (decide (p = bs)), [])) :
    m20b0 Φ N [] g (sl11x r (byL bs) true i n) (ob11x S h) = cond (pl && ((((i + min (bs.length - i) 32 : Nat) : Int) == (bs.length : Int)) && decide (p = bs))) (some (.tup [.agg (frC { h with tag := tgAt bs i }), .i .i64 0], [])) (errR 3) := by
  have hl := byL_len bs
  have hp := byL_len p
  have hu := uz32
  have lt : ¬ n < n := Int.lt_irrefl n
  have hc := cpy_tag ((80, fbox zeF) :: (104, fbox h) :: S) h hz (bs.drop i) rfl
  have hs := fun ob => slc_at ob (byL bs) i (allW_by bs) (by omega)
  have hd := drop_by bs i
  rw [List.length_drop] at hc
  have ht : { h with tag := (bs.drop i).take 32 ++ z32.drop (min (bs.length - i) 32) } = ({ h with tag := tgAt bs i } : Fra) := rfl
  rw [ht] at hc
  rw [hd] at hs
  unfold outP at H1
  unfold errR
  have wa : IntKind.i64.wrap ((i : Int) + ((min (bs.length - i) 32 : Nat) : Int)) = ((i + min (bs.length - i) 32 : Nat) : Int) := by rw [IntKind.wrap_i64]; omega
  generalize hm : ((min (bs.length - i) 32 : Nat) : Int) = mm at *
  generalize ((i + min (bs.length - i) 32 : Nat) : Int) = at' at *
  rw [← hl]
  rw [← hp] at H1
  have tp : List.take (byL p).length (byL p) = byL p := List.take_length
  generalize decide (p = bs) = e at *
  generalize byL p = c at *
  generalize byL (bs.drop i) = b' at *
  generalize byL bs = b at *
  obtain ⟨a1, a2, a3, a4, a5, a6, a7, a8, a9⟩ := h
  simp only at hz
  subst hz
  simp only [sl11x, ob11x, fbox, frC, zeF, box, row] at *
  generalize uL (tgAt bs i) = q at *
  generalize uL z32 = z at *
  have hu' := hu.symm
  clear ht hm hd
  cases pl
  · simp only [cond_false] at H1
    simp -implicitDefEqProofs (maxSteps := 1000000) (disch := first | omega | rfl) [m20b0, hS, hu', H1, hc, hs, wa, lt, -List.reduceReplicate, KVl, KS, getS, getO, gS, dropW, takeW, wds, sea, seaL, refs, refsL, noExt, noExts, ren, renL, boxO, putW, newOs, renO, noExtO, -getElem?_pos]
  · simp only [cond_true] at H1
    by_cases ha : at' = (b.length : Int)
    · have ha1 : (at' == (b.length : Int)) = true := by simp [ha]
      have ha2 : (at' != (b.length : Int)) = false := by simp [ha]
      cases e <;> simp -implicitDefEqProofs (maxSteps := 1000000) (disch := first | omega | rfl) [m20b0, hS, hu', H1, H2, hc, hs, wa, ha1, ha2, tp, lt, -List.reduceReplicate, KVl, KS, getS, getO, gS, dropW, takeW, wds, sea, seaL, refs, refsL, noExt, noExts, ren, renL, boxO, putW, newOs, renO, noExtO, -getElem?_pos]
    · have ha1 : (at' == (b.length : Int)) = false := by simp [ha]
      have ha2 : (at' != (b.length : Int)) = true := by simp [ha]
      simp -implicitDefEqProofs (maxSteps := 1000000) (disch := first | omega | rfl) [m20b0, hS, hu', H1, hc, hs, wa, ha1, ha2, lt, -List.reduceReplicate, KVl, KS, getS, getO, gS, dropW, takeW, wds, sea, seaL, refs, refsL, noExt, noExts, ren, renL, boxO, putW, newOs, renO, noExtO, -getElem?_pos]
end
section
attribute [local congr] bnd_cg bndO_cg br_cg
theorem kind_get (k : Int) (bs : List Int) (hk : inB k 0 6 = true) : (getF k bs).kind = k := by
  rcases kinds hk with e | e | e | e | e | e | e <;> subst e <;> rfl
theorem ahead_sz (k : Int) (hk : inB k 0 6 = true) : aheadF k + (cond (tagdF k) 32 0) = szF k + 2 := by
  rcases kinds hk with e | e | e | e | e | e | e <;> subst e <;> rfl
theorem put_get_len (k : Int) (bs : List Int) (hk : inB k 0 6 = true) (hr : ∀ x ∈ bs, 0 ≤ x ∧ x ≤ 255) : (putF (getF k bs)).length = szF k + 2 := by
  rw [putF_len _ (by rw [kind_get k bs hk]; exact hk) (okF_get k bs hr).tag, kind_get k bs hk]
def gdK (k : Int) (bs : List Int) : Bool := plainF (getF k bs) && decide (putF (getF k bs) = bs)
theorem bad11 (k : Int) (bs : List Int) (hk : inB k 0 6 = true) (hr : ∀ x ∈ bs, 0 ≤ x ∧ x ≤ 255) (h : bs.length < aheadF k) : gdK k bs = false := by
  have hl := put_get_len k bs hk hr
  have := ahead_sz k hk
  have ht : (cond (tagdF k) 32 0 : Nat) ≤ 32 := by cases tagdF k <;> decide
  unfold gdK
  by_cases e : putF (getF k bs) = bs
  · rw [e] at hl; omega
  · simp [e]
theorem fin11 (k : Int) (bs : List Int) (hk : inB k 0 6 = true) (hr : ∀ x ∈ bs, 0 ≤ x ∧ x ≤ 255) (at' : Int) (h : bs.length = szF k + 2 → at' = bs.length) (pl : Bool) : (pl && ((at' == (bs.length : Int)) && decide (putF (getF k bs) = bs))) = (pl && decide (putF (getF k bs) = bs)) := by
  by_cases e : putF (getF k bs) = bs
  · have hl := put_get_len k bs hk hr
    rw [e] at hl
    simp [e, h hl]
  · simp [e]
def okR (f : Fra) : Option R := some (.tup [.agg (frC f), .i .i64 0], [])
theorem lp11_0 (M d : Nat) (bs : List Int) (hb : bs.length ≤ 64) (hr : ∀ x ∈ bs, 0 ≤ x ∧ x ≤ 255) : loopC (m20b0 (sem tab (M + 1000) (d + 5)) (M + 1000) []) (M + 1000) (sl11 (byL bs) false 3 2 0) (ob11 0 ⟨0, 0, 0, 0, 0, 0, 0, 0, z32⟩) = cond (gdK 0 bs) (okR (getF 0 bs)) (errR 3) := by
  have hbad := bad11 0 bs rfl hr
  by_cases c0 : 4 ≤ bs.length
  rotate_left
  · have x := V23x (M + 900) (d + 3) false bs 3 1 (by omega) (by omega) (by omega) (by omega)
    rw [k_loop, x11_0_0 _ _ _ _  x, hbad (by show bs.length < 12; omega)]; rfl
  have y0 := V99 (M + 900) (d + 3) false bs 3 1 (by omega) (by omega) hr (by omega)
  have w0 : IntKind.i64.wrap (vAt bs 3 1) = vAt bs 3 1 := by
    have := vAt_range bs hr 3 1 (by decide)
    rw [IntKind.wrap_i64]; omega
  rw [k_loop, s11_0_0 _ _ _ _  (vAt bs 3 1) w0 y0]
  by_cases c1 : 12 ≤ bs.length
  rotate_left
  · have x := V23x (M + 900) (d + 3) false bs 4 8 (by omega) (by omega) (by omega) (by omega)
    rw [k_loop, x11_0_1 _ _ _ _ (vAt bs 3 1) x, hbad (by show bs.length < 12; omega)]; rfl
  have y1 := V99 (M + 900) (d + 3) false bs 4 8 (by omega) (by omega) hr (by omega)
  rw [k_loop, s11_0_1 _ _ _ _ (vAt bs 3 1) (vAt bs 4 8) y1]
  have o := okF_get 0 bs hr
  have h10 := V10 (M + 900) d (getF 0 bs) o
  have pl := put_get_len 0 bs rfl hr
  have sz := szF_le 0
  have h24 := U95 M (d + 4) (putF (getF 0 bs)) bs (by omega)
  have e := e11u (sem tab (M + 1000) (d + 5)) (M + 1000) (loopC (m20b0 (sem tab (M + 1000) (d + 5)) (M + 1000) []) (M + 997)) bs (putF (getF 0 bs)) [(376, rowS (slF 104 0) (cpF 0))] (.sl 376 0 0 2) (getF 0 bs) (plainF (getF 0 bs)) 2 12 rfl h10 h24
  rw [fin11 0 bs rfl hr _ (by intro h; have h : bs.length = 12 := h; omega) _] at e
  rw [k_loop]
  exact e
theorem lp11_1 (M d : Nat) (bs : List Int) (hb : bs.length ≤ 64) (hr : ∀ x ∈ bs, 0 ≤ x ∧ x ≤ 255) : loopC (m20b0 (sem tab (M + 1000) (d + 5)) (M + 1000) []) (M + 1000) (sl11 (byL bs) false 3 2 0) (ob11 1 ⟨1, 0, 0, 0, 0, 0, 0, 0, z32⟩) = cond (gdK 1 bs) (okR (getF 1 bs)) (errR 3) := by
  have hbad := bad11 1 bs rfl hr
  by_cases c0 : 11 ≤ bs.length
  rotate_left
  · have x := V23x (M + 900) (d + 3) false bs 3 8 (by omega) (by omega) (by omega) (by omega)
    rw [k_loop, x11_1_0 _ _ _ _  x, hbad (by show bs.length < 15; omega)]; rfl
  have y0 := V99 (M + 900) (d + 3) false bs 3 8 (by omega) (by omega) hr (by omega)
  rw [k_loop, s11_1_0 _ _ _ _  (vAt bs 3 8) y0]
  by_cases c1 : 15 ≤ bs.length
  rotate_left
  · have x := V23x (M + 900) (d + 3) false bs 11 4 (by omega) (by omega) (by omega) (by omega)
    rw [k_loop, x11_1_1 _ _ _ _ (vAt bs 3 8) x, hbad (by show bs.length < 15; omega)]; rfl
  have y1 := V99 (M + 900) (d + 3) false bs 11 4 (by omega) (by omega) hr (by omega)
  have w1 : IntKind.i64.wrap (vAt bs 11 4) = vAt bs 11 4 := by
    have := vAt_range bs hr 11 4 (by decide)
    rw [IntKind.wrap_i64]; omega
  rw [k_loop, s11_1_1 _ _ _ _ (vAt bs 3 8) (vAt bs 11 4) w1 y1]
  have o := okF_get 1 bs hr
  have h10 := V10 (M + 900) d (getF 1 bs) o
  have pl := put_get_len 1 bs rfl hr
  have sz := szF_le 1
  have h24 := U95 M (d + 4) (putF (getF 1 bs)) bs (by omega)
  have e := e11u (sem tab (M + 1000) (d + 5)) (M + 1000) (loopC (m20b0 (sem tab (M + 1000) (d + 5)) (M + 1000) []) (M + 997)) bs (putF (getF 1 bs)) [(376, rowS (slF 104 1) (cpF 1))] (.sl 376 0 0 2) (getF 1 bs) (plainF (getF 1 bs)) 2 15 rfl h10 h24
  rw [fin11 1 bs rfl hr _ (by intro h; have h : bs.length = 15 := h; omega) _] at e
  rw [k_loop]
  exact e
theorem lp11_2 (M d : Nat) (bs : List Int) (hb : bs.length ≤ 64) (hr : ∀ x ∈ bs, 0 ≤ x ∧ x ≤ 255) : loopC (m20b0 (sem tab (M + 1000) (d + 5)) (M + 1000) []) (M + 1000) (sl11 (byL bs) true 3 1 0) (ob11 2 ⟨2, 0, 0, 0, 0, 0, 0, 0, z32⟩) = cond (gdK 2 bs) (okR (getF 2 bs)) (errR 3) := by
  have hbad := bad11 2 bs rfl hr
  by_cases c0 : 11 ≤ bs.length
  rotate_left
  · have x := V23x (M + 900) (d + 3) false bs 3 8 (by omega) (by omega) (by omega) (by omega)
    rw [k_loop, x11_2_0 _ _ _ _  x, hbad (by show bs.length < 11; omega)]; rfl
  have y0 := V99 (M + 900) (d + 3) false bs 3 8 (by omega) (by omega) hr (by omega)
  rw [k_loop, s11_2_0 _ _ _ _  (vAt bs 3 8) y0]
  have o := okF_get 2 bs hr
  have h10 := V10 (M + 900) d (getF 2 bs) o
  have pl := put_get_len 2 bs rfl hr
  have sz := szF_le 2
  have h24 := U95 M (d + 4) (putF (getF 2 bs)) bs (by omega)
  have e := e11t (sem tab (M + 1000) (d + 5)) (M + 1000) (loopC (m20b0 (sem tab (M + 1000) (d + 5)) (M + 1000) []) (M + 998)) bs (putF (getF 2 bs)) [(376, rowS (slF 104 2) (cpF 2))] (.sl 376 0 0 1) ⟨2, 0, (vAt bs 3 8), 0, 0, 0, 0, 0, z32⟩ (plainF (getF 2 bs)) 1 11 rfl (by omega) (by omega) rfl h10 h24
  rw [fin11 2 bs rfl hr _ (by intro h; have h : bs.length = 43 := h; omega) _] at e
  rw [k_loop]
  exact e
theorem lp11_3 (M d : Nat) (bs : List Int) (hb : bs.length ≤ 64) (hr : ∀ x ∈ bs, 0 ≤ x ∧ x ≤ 255) : loopC (m20b0 (sem tab (M + 1000) (d + 5)) (M + 1000) []) (M + 1000) (sl11 (byL bs) true 3 1 0) (ob11 3 ⟨3, 0, 0, 0, 0, 0, 0, 0, z32⟩) = cond (gdK 3 bs) (okR (getF 3 bs)) (errR 3) := by
  have hbad := bad11 3 bs rfl hr
  by_cases c0 : 11 ≤ bs.length
  rotate_left
  · have x := V23x (M + 900) (d + 3) false bs 3 8 (by omega) (by omega) (by omega) (by omega)
    rw [k_loop, x11_3_0 _ _ _ _  x, hbad (by show bs.length < 11; omega)]; rfl
  have y0 := V99 (M + 900) (d + 3) false bs 3 8 (by omega) (by omega) hr (by omega)
  rw [k_loop, s11_3_0 _ _ _ _  (vAt bs 3 8) y0]
  have o := okF_get 3 bs hr
  have h10 := V10 (M + 900) d (getF 3 bs) o
  have pl := put_get_len 3 bs rfl hr
  have sz := szF_le 3
  have h24 := U95 M (d + 4) (putF (getF 3 bs)) bs (by omega)
  have e := e11t (sem tab (M + 1000) (d + 5)) (M + 1000) (loopC (m20b0 (sem tab (M + 1000) (d + 5)) (M + 1000) []) (M + 998)) bs (putF (getF 3 bs)) [(376, rowS (slF 104 3) (cpF 3))] (.sl 376 0 0 1) ⟨3, 0, (vAt bs 3 8), 0, 0, 0, 0, 0, z32⟩ (plainF (getF 3 bs)) 1 11 rfl (by omega) (by omega) rfl h10 h24
  rw [fin11 3 bs rfl hr _ (by intro h; have h : bs.length = 43 := h; omega) _] at e
  rw [k_loop]
  exact e
theorem lp11_4 (M d : Nat) (bs : List Int) (hb : bs.length ≤ 64) (hr : ∀ x ∈ bs, 0 ≤ x ∧ x ≤ 255) : loopC (m20b0 (sem tab (M + 1000) (d + 5)) (M + 1000) []) (M + 1000) (sl11 (byL bs) true 3 4 0) (ob11 4 ⟨4, 0, 0, 0, 0, 0, 0, 0, z32⟩) = cond (gdK 4 bs) (okR (getF 4 bs)) (errR 3) := by
  have hbad := bad11 4 bs rfl hr
  by_cases c0 : 11 ≤ bs.length
  rotate_left
  · have x := V23x (M + 900) (d + 3) false bs 3 8 (by omega) (by omega) (by omega) (by omega)
    rw [k_loop, x11_4_0 _ _ _ _  x, hbad (by show bs.length < 22; omega)]; rfl
  have y0 := V99 (M + 900) (d + 3) false bs 3 8 (by omega) (by omega) hr (by omega)
  rw [k_loop, s11_4_0 _ _ _ _  (vAt bs 3 8) y0]
  by_cases c1 : 19 ≤ bs.length
  rotate_left
  · have x := V23x (M + 900) (d + 3) false bs 11 8 (by omega) (by omega) (by omega) (by omega)
    rw [k_loop, x11_4_1 _ _ _ _ (vAt bs 3 8) x, hbad (by show bs.length < 22; omega)]; rfl
  have y1 := V99 (M + 900) (d + 3) false bs 11 8 (by omega) (by omega) hr (by omega)
  rw [k_loop, s11_4_1 _ _ _ _ (vAt bs 3 8) (vAt bs 11 8) y1]
  by_cases c2 : 20 ≤ bs.length
  rotate_left
  · have x := V23x (M + 900) (d + 3) false bs 19 1 (by omega) (by omega) (by omega) (by omega)
    rw [k_loop, x11_4_2 _ _ _ _ (vAt bs 3 8) (vAt bs 11 8) x, hbad (by show bs.length < 22; omega)]; rfl
  have y2 := V99 (M + 900) (d + 3) false bs 19 1 (by omega) (by omega) hr (by omega)
  have w2 : IntKind.i64.wrap (vAt bs 19 1) = vAt bs 19 1 := by
    have := vAt_range bs hr 19 1 (by decide)
    rw [IntKind.wrap_i64]; omega
  rw [k_loop, s11_4_2 _ _ _ _ (vAt bs 3 8) (vAt bs 11 8) (vAt bs 19 1) w2 y2]
  by_cases c3 : 22 ≤ bs.length
  rotate_left
  · have x := V23x (M + 900) (d + 3) false bs 20 2 (by omega) (by omega) (by omega) (by omega)
    rw [k_loop, x11_4_3 _ _ _ _ (vAt bs 3 8) (vAt bs 11 8) (vAt bs 19 1) x, hbad (by show bs.length < 22; omega)]; rfl
  have y3 := V99 (M + 900) (d + 3) false bs 20 2 (by omega) (by omega) hr (by omega)
  have w3 : IntKind.i64.wrap (vAt bs 20 2) = vAt bs 20 2 := by
    have := vAt_range bs hr 20 2 (by decide)
    rw [IntKind.wrap_i64]; omega
  rw [k_loop, s11_4_3 _ _ _ _ (vAt bs 3 8) (vAt bs 11 8) (vAt bs 19 1) (vAt bs 20 2) w3 y3]
  have o := okF_get 4 bs hr
  have h10 := V10 (M + 900) d (getF 4 bs) o
  have pl := put_get_len 4 bs rfl hr
  have sz := szF_le 4
  have h24 := U95 M (d + 4) (putF (getF 4 bs)) bs (by omega)
  have e := e11t (sem tab (M + 1000) (d + 5)) (M + 1000) (loopC (m20b0 (sem tab (M + 1000) (d + 5)) (M + 1000) []) (M + 995)) bs (putF (getF 4 bs)) [(376, rowS (slF 104 4) (cpF 4))] (.sl 376 0 0 4) ⟨4, 0, (vAt bs 3 8), 0, 0, (vAt bs 11 8), (vAt bs 19 1), (vAt bs 20 2), z32⟩ (plainF (getF 4 bs)) 4 22 rfl (by omega) (by omega) rfl h10 h24
  rw [fin11 4 bs rfl hr _ (by intro h; have h : bs.length = 54 := h; omega) _] at e
  rw [k_loop]
  exact e
theorem lp11_5 (M d : Nat) (bs : List Int) (hb : bs.length ≤ 64) (hr : ∀ x ∈ bs, 0 ≤ x ∧ x ≤ 255) : loopC (m20b0 (sem tab (M + 1000) (d + 5)) (M + 1000) []) (M + 1000) (sl11 (byL bs) true 3 4 0) (ob11 5 ⟨5, 0, 0, 0, 0, 0, 0, 0, z32⟩) = cond (gdK 5 bs) (okR (getF 5 bs)) (errR 3) := by
  have hbad := bad11 5 bs rfl hr
  by_cases c0 : 11 ≤ bs.length
  rotate_left
  · have x := V23x (M + 900) (d + 3) false bs 3 8 (by omega) (by omega) (by omega) (by omega)
    rw [k_loop, x11_5_0 _ _ _ _  x, hbad (by show bs.length < 22; omega)]; rfl
  have y0 := V99 (M + 900) (d + 3) false bs 3 8 (by omega) (by omega) hr (by omega)
  rw [k_loop, s11_5_0 _ _ _ _  (vAt bs 3 8) y0]
  by_cases c1 : 19 ≤ bs.length
  rotate_left
  · have x := V23x (M + 900) (d + 3) false bs 11 8 (by omega) (by omega) (by omega) (by omega)
    rw [k_loop, x11_5_1 _ _ _ _ (vAt bs 3 8) x, hbad (by show bs.length < 22; omega)]; rfl
  have y1 := V99 (M + 900) (d + 3) false bs 11 8 (by omega) (by omega) hr (by omega)
  rw [k_loop, s11_5_1 _ _ _ _ (vAt bs 3 8) (vAt bs 11 8) y1]
  by_cases c2 : 20 ≤ bs.length
  rotate_left
  · have x := V23x (M + 900) (d + 3) false bs 19 1 (by omega) (by omega) (by omega) (by omega)
    rw [k_loop, x11_5_2 _ _ _ _ (vAt bs 3 8) (vAt bs 11 8) x, hbad (by show bs.length < 22; omega)]; rfl
  have y2 := V99 (M + 900) (d + 3) false bs 19 1 (by omega) (by omega) hr (by omega)
  have w2 : IntKind.i64.wrap (vAt bs 19 1) = vAt bs 19 1 := by
    have := vAt_range bs hr 19 1 (by decide)
    rw [IntKind.wrap_i64]; omega
  rw [k_loop, s11_5_2 _ _ _ _ (vAt bs 3 8) (vAt bs 11 8) (vAt bs 19 1) w2 y2]
  by_cases c3 : 22 ≤ bs.length
  rotate_left
  · have x := V23x (M + 900) (d + 3) false bs 20 2 (by omega) (by omega) (by omega) (by omega)
    rw [k_loop, x11_5_3 _ _ _ _ (vAt bs 3 8) (vAt bs 11 8) (vAt bs 19 1) x, hbad (by show bs.length < 22; omega)]; rfl
  have y3 := V99 (M + 900) (d + 3) false bs 20 2 (by omega) (by omega) hr (by omega)
  have w3 : IntKind.i64.wrap (vAt bs 20 2) = vAt bs 20 2 := by
    have := vAt_range bs hr 20 2 (by decide)
    rw [IntKind.wrap_i64]; omega
  rw [k_loop, s11_5_3 _ _ _ _ (vAt bs 3 8) (vAt bs 11 8) (vAt bs 19 1) (vAt bs 20 2) w3 y3]
  have o := okF_get 5 bs hr
  have h10 := V10 (M + 900) d (getF 5 bs) o
  have pl := put_get_len 5 bs rfl hr
  have sz := szF_le 5
  have h24 := U95 M (d + 4) (putF (getF 5 bs)) bs (by omega)
  have e := e11t (sem tab (M + 1000) (d + 5)) (M + 1000) (loopC (m20b0 (sem tab (M + 1000) (d + 5)) (M + 1000) []) (M + 995)) bs (putF (getF 5 bs)) [(376, rowS (slF 104 5) (cpF 5))] (.sl 376 0 0 4) ⟨5, 0, (vAt bs 3 8), 0, 0, (vAt bs 11 8), (vAt bs 19 1), (vAt bs 20 2), z32⟩ (plainF (getF 5 bs)) 4 22 rfl (by omega) (by omega) rfl h10 h24
  rw [fin11 5 bs rfl hr _ (by intro h; have h : bs.length = 54 := h; omega) _] at e
  rw [k_loop]
  exact e
theorem lp11_6 (M d : Nat) (bs : List Int) (hb : bs.length ≤ 64) (hr : ∀ x ∈ bs, 0 ≤ x ∧ x ≤ 255) : loopC (m20b0 (sem tab (M + 1000) (d + 5)) (M + 1000) []) (M + 1000) (sl11 (byL bs) false 3 1 0) (ob11 6 ⟨6, 0, 0, 0, 0, 0, 0, 0, z32⟩) = cond (gdK 6 bs) (okR (getF 6 bs)) (errR 3) := by
  have hbad := bad11 6 bs rfl hr
  by_cases c0 : 4 ≤ bs.length
  rotate_left
  · have x := V23x (M + 900) (d + 3) false bs 3 1 (by omega) (by omega) (by omega) (by omega)
    rw [k_loop, x11_6_0 _ _ _ _  x, hbad (by show bs.length < 4; omega)]; rfl
  have y0 := V99 (M + 900) (d + 3) false bs 3 1 (by omega) (by omega) hr (by omega)
  have w0 : IntKind.i64.wrap (vAt bs 3 1) = vAt bs 3 1 := by
    have := vAt_range bs hr 3 1 (by decide)
    rw [IntKind.wrap_i64]; omega
  rw [k_loop, s11_6_0 _ _ _ _  (vAt bs 3 1) w0 y0]
  have o := okF_get 6 bs hr
  have h10 := V10 (M + 900) d (getF 6 bs) o
  have pl := put_get_len 6 bs rfl hr
  have sz := szF_le 6
  have h24 := U95 M (d + 4) (putF (getF 6 bs)) bs (by omega)
  have e := e11u (sem tab (M + 1000) (d + 5)) (M + 1000) (loopC (m20b0 (sem tab (M + 1000) (d + 5)) (M + 1000) []) (M + 998)) bs (putF (getF 6 bs)) [(376, rowS (slF 104 6) (cpF 6))] (.sl 376 0 0 1) (getF 6 bs) (plainF (getF 6 bs)) 1 4 rfl h10 h24
  rw [fin11 6 bs rfl hr _ (by intro h; have h : bs.length = 4 := h; omega) _] at e
  rw [k_loop]
  exact e
end
section
attribute [local congr] bnd_cg bndO_cg br_cg
def outRd (bs : List Int) : Option R := cond (goodF bs) (okR (seemF bs)) (errR (errF bs))
set_option maxHeartbeats 4000000 in
theorem R11_0 (M d : Nat) (bs : List Int) (hb : bs.length ≤ 64) (h3 : 3 ≤ bs.length) (hr : ∀ x ∈ bs, 0 ≤ x ∧ x ≤ 255) (hL : longF bs = bs.length) (hx : (byL bs)[2]? = some [.i .u8 0]) :
    m20 (sem tab (M + 1000) (d + 5)) (M + 1000) [.l false (byL bs)] [] = cond (gdK 0 bs) (okR (getF 0 bs)) (errR 3) := by
  have h := lp11_0 M d bs hb hr
  have h21 := V21 (M + 900) (d + 2) bs (by omega) hr
  rw [hL, show M + 900 + 100 = M + 1000 by omega, show d + 2 + 3 = d + 5 by omega] at h21
  have c : ca (sem tab (M + 1000) (d + 5)) [(104, fbox ⟨0, 0, 0, 0, 0, 0, 0, 0, z32⟩), (104, fbox zeF), (80, fbox zeF)] 376 false 34 [.p 104 0 0 0 none] = some (.tup [.sl 376 0 0 2, .b false], [(376, rowS [sN 104 1 1, sU 104 3 8] (some 2)), (104, fbox ⟨0, 0, 0, 0, 0, 0, 0, 0, z32⟩)]) := k_ca22 (sem tab (M + 1000) (d + 5)) [(104, fbox ⟨0, 0, 0, 0, 0, 0, 0, 0, z32⟩), (104, fbox zeF), (80, fbox zeF)] 376 104 _ ⟨0, 0, 0, 0, 0, 0, 0, 0, z32⟩ _ rfl rfl rfl (V22 (M + 1000) (d + 3) ⟨0, 0, 0, 0, 0, 0, 0, 0, z32⟩ rfl)
  have hl := byL_len bs
  have c1 : ¬ ((bs.length : Int) > 64) := by omega
  have c2 : ((bs.length : Int) == -1) = false := by simp
  have c3 : ((bs.length : Int) == 2) = false := by simp; omega
  have wk : IntKind.i64.wrap (0 : Int) = 0 := by decide
  rw [k_loop] at h
  have h : m20b0 (sem tab (M + 1000) (d + 5)) (M + 1000) [] (loopC (m20b0 (sem tab (M + 1000) (d + 5)) (M + 1000) []) (M + 999)) [(0, .l false (byL bs)), (2, .p 80 0 0 0 none), (5, .p 104 0 0 0 none), (7, .b false), (8, .i .i64 3), (42, .sl 376 0 0 2), (43, .i .i64 2), (44, .i .i64 0)] [(80, fbox zeF), (104, fbox ⟨0, 0, 0, 0, 0, 0, 0, 0, z32⟩), (376, rowS [sN 104 1 1, sU 104 3 8] (some 2))] = cond (gdK 0 bs) (okR (getF 0 bs)) (errR 3) := h
  generalize cond (gdK 0 bs) (okR (getF 0 bs)) (errR 3) = res at *
  have hu' := uz32.symm
  rw [← hl] at h21 c1 c2 c3
  simp only [fbox, frC, rowS, sU, sN, box, zeF] at h c
  generalize uL z32 = z at *
  generalize byL bs = b at *
  simp -implicitDefEqProofs (maxSteps := 1000000) (disch := first | omega | rfl) [m20, h21, c, h, c1, c2, c3, hx, wk, hu', boxO, -List.reduceReplicate, KS, getS, getO, gS, zipN, dropW, takeW, wds, refs, refsL, refsEls, refsO, noExt, ren, keepO, keepS, keysO, refsS, refsOB, headC, boxO, putW, putB, -getElem?_pos, k_cnt, k_cnt0]
set_option maxHeartbeats 4000000 in
theorem R11_1 (M d : Nat) (bs : List Int) (hb : bs.length ≤ 64) (h3 : 3 ≤ bs.length) (hr : ∀ x ∈ bs, 0 ≤ x ∧ x ≤ 255) (hL : longF bs = bs.length) (hx : (byL bs)[2]? = some [.i .u8 1]) :
    m20 (sem tab (M + 1000) (d + 5)) (M + 1000) [.l false (byL bs)] [] = cond (gdK 1 bs) (okR (getF 1 bs)) (errR 3) := by
  have h := lp11_1 M d bs hb hr
  have h21 := V21 (M + 900) (d + 2) bs (by omega) hr
  rw [hL, show M + 900 + 100 = M + 1000 by omega, show d + 2 + 3 = d + 5 by omega] at h21
  have c : ca (sem tab (M + 1000) (d + 5)) [(104, fbox ⟨1, 0, 0, 0, 0, 0, 0, 0, z32⟩), (104, fbox zeF), (80, fbox zeF)] 376 false 34 [.p 104 0 0 0 none] = some (.tup [.sl 376 0 0 2, .b false], [(376, rowS [sU 104 2 8, sN 104 4 4] (some 2)), (104, fbox ⟨1, 0, 0, 0, 0, 0, 0, 0, z32⟩)]) := k_ca22 (sem tab (M + 1000) (d + 5)) [(104, fbox ⟨1, 0, 0, 0, 0, 0, 0, 0, z32⟩), (104, fbox zeF), (80, fbox zeF)] 376 104 _ ⟨1, 0, 0, 0, 0, 0, 0, 0, z32⟩ _ rfl rfl rfl (V22 (M + 1000) (d + 3) ⟨1, 0, 0, 0, 0, 0, 0, 0, z32⟩ rfl)
  have hl := byL_len bs
  have c1 : ¬ ((bs.length : Int) > 64) := by omega
  have c2 : ((bs.length : Int) == -1) = false := by simp
  have c3 : ((bs.length : Int) == 2) = false := by simp; omega
  have wk : IntKind.i64.wrap (1 : Int) = 1 := by decide
  rw [k_loop] at h
  have h : m20b0 (sem tab (M + 1000) (d + 5)) (M + 1000) [] (loopC (m20b0 (sem tab (M + 1000) (d + 5)) (M + 1000) []) (M + 999)) [(0, .l false (byL bs)), (2, .p 80 0 0 0 none), (5, .p 104 0 0 0 none), (7, .b false), (8, .i .i64 3), (42, .sl 376 0 0 2), (43, .i .i64 2), (44, .i .i64 0)] [(80, fbox zeF), (104, fbox ⟨1, 0, 0, 0, 0, 0, 0, 0, z32⟩), (376, rowS [sU 104 2 8, sN 104 4 4] (some 2))] = cond (gdK 1 bs) (okR (getF 1 bs)) (errR 3) := h
  generalize cond (gdK 1 bs) (okR (getF 1 bs)) (errR 3) = res at *
  have hu' := uz32.symm
  rw [← hl] at h21 c1 c2 c3
  simp only [fbox, frC, rowS, sU, sN, box, zeF] at h c
  generalize uL z32 = z at *
  generalize byL bs = b at *
  simp -implicitDefEqProofs (maxSteps := 1000000) (disch := first | omega | rfl) [m20, h21, c, h, c1, c2, c3, hx, wk, hu', boxO, -List.reduceReplicate, KS, getS, getO, gS, zipN, dropW, takeW, wds, refs, refsL, refsEls, refsO, noExt, ren, keepO, keepS, keysO, refsS, refsOB, headC, boxO, putW, putB, -getElem?_pos, k_cnt, k_cnt0]
set_option maxHeartbeats 4000000 in
theorem R11_2 (M d : Nat) (bs : List Int) (hb : bs.length ≤ 64) (h3 : 3 ≤ bs.length) (hr : ∀ x ∈ bs, 0 ≤ x ∧ x ≤ 255) (hL : longF bs = bs.length) (hx : (byL bs)[2]? = some [.i .u8 2]) :
    m20 (sem tab (M + 1000) (d + 5)) (M + 1000) [.l false (byL bs)] [] = cond (gdK 2 bs) (okR (getF 2 bs)) (errR 3) := by
  have h := lp11_2 M d bs hb hr
  have h21 := V21 (M + 900) (d + 2) bs (by omega) hr
  rw [hL, show M + 900 + 100 = M + 1000 by omega, show d + 2 + 3 = d + 5 by omega] at h21
  have c : ca (sem tab (M + 1000) (d + 5)) [(104, fbox ⟨2, 0, 0, 0, 0, 0, 0, 0, z32⟩), (104, fbox zeF), (80, fbox zeF)] 376 false 34 [.p 104 0 0 0 none] = some (.tup [.sl 376 0 0 1, .b true], [(376, rowS [sU 104 2 8] none), (104, fbox ⟨2, 0, 0, 0, 0, 0, 0, 0, z32⟩)]) := k_ca22 (sem tab (M + 1000) (d + 5)) [(104, fbox ⟨2, 0, 0, 0, 0, 0, 0, 0, z32⟩), (104, fbox zeF), (80, fbox zeF)] 376 104 _ ⟨2, 0, 0, 0, 0, 0, 0, 0, z32⟩ _ rfl rfl rfl (V22 (M + 1000) (d + 3) ⟨2, 0, 0, 0, 0, 0, 0, 0, z32⟩ rfl)
  have hl := byL_len bs
  have c1 : ¬ ((bs.length : Int) > 64) := by omega
  have c2 : ((bs.length : Int) == -1) = false := by simp
  have c3 : ((bs.length : Int) == 2) = false := by simp; omega
  have wk : IntKind.i64.wrap (2 : Int) = 2 := by decide
  rw [k_loop] at h
  have h : m20b0 (sem tab (M + 1000) (d + 5)) (M + 1000) [] (loopC (m20b0 (sem tab (M + 1000) (d + 5)) (M + 1000) []) (M + 999)) [(0, .l false (byL bs)), (2, .p 80 0 0 0 none), (5, .p 104 0 0 0 none), (7, .b true), (8, .i .i64 3), (42, .sl 376 0 0 1), (43, .i .i64 1), (44, .i .i64 0)] [(80, fbox zeF), (104, fbox ⟨2, 0, 0, 0, 0, 0, 0, 0, z32⟩), (376, rowS [sU 104 2 8] none)] = cond (gdK 2 bs) (okR (getF 2 bs)) (errR 3) := h
  generalize cond (gdK 2 bs) (okR (getF 2 bs)) (errR 3) = res at *
  have hu' := uz32.symm
  rw [← hl] at h21 c1 c2 c3
  simp only [fbox, frC, rowS, sU, box, zeF] at h c
  generalize uL z32 = z at *
  generalize byL bs = b at *
  simp -implicitDefEqProofs (maxSteps := 1000000) (disch := first | omega | rfl) [m20, h21, c, h, c1, c2, c3, hx, wk, hu', boxO, -List.reduceReplicate, KS, getS, getO, gS, zipN, dropW, takeW, wds, refs, refsL, refsEls, refsO, noExt, ren, keepO, keepS, keysO, refsS, refsOB, headC, boxO, putW, putB, -getElem?_pos, k_cnt, k_cnt0]
set_option maxHeartbeats 4000000 in
theorem R11_3 (M d : Nat) (bs : List Int) (hb : bs.length ≤ 64) (h3 : 3 ≤ bs.length) (hr : ∀ x ∈ bs, 0 ≤ x ∧ x ≤ 255) (hL : longF bs = bs.length) (hx : (byL bs)[2]? = some [.i .u8 3]) :
    m20 (sem tab (M + 1000) (d + 5)) (M + 1000) [.l false (byL bs)] [] = cond (gdK 3 bs) (okR (getF 3 bs)) (errR 3) := by
  have h := lp11_3 M d bs hb hr
  have h21 := V21 (M + 900) (d + 2) bs (by omega) hr
  rw [hL, show M + 900 + 100 = M + 1000 by omega, show d + 2 + 3 = d + 5 by omega] at h21
  have c : ca (sem tab (M + 1000) (d + 5)) [(104, fbox ⟨3, 0, 0, 0, 0, 0, 0, 0, z32⟩), (104, fbox zeF), (80, fbox zeF)] 376 false 34 [.p 104 0 0 0 none] = some (.tup [.sl 376 0 0 1, .b true], [(376, rowS [sU 104 2 8] none), (104, fbox ⟨3, 0, 0, 0, 0, 0, 0, 0, z32⟩)]) := k_ca22 (sem tab (M + 1000) (d + 5)) [(104, fbox ⟨3, 0, 0, 0, 0, 0, 0, 0, z32⟩), (104, fbox zeF), (80, fbox zeF)] 376 104 _ ⟨3, 0, 0, 0, 0, 0, 0, 0, z32⟩ _ rfl rfl rfl (V22 (M + 1000) (d + 3) ⟨3, 0, 0, 0, 0, 0, 0, 0, z32⟩ rfl)
  have hl := byL_len bs
  have c1 : ¬ ((bs.length : Int) > 64) := by omega
  have c2 : ((bs.length : Int) == -1) = false := by simp
  have c3 : ((bs.length : Int) == 2) = false := by simp; omega
  have wk : IntKind.i64.wrap (3 : Int) = 3 := by decide
  rw [k_loop] at h
  have h : m20b0 (sem tab (M + 1000) (d + 5)) (M + 1000) [] (loopC (m20b0 (sem tab (M + 1000) (d + 5)) (M + 1000) []) (M + 999)) [(0, .l false (byL bs)), (2, .p 80 0 0 0 none), (5, .p 104 0 0 0 none), (7, .b true), (8, .i .i64 3), (42, .sl 376 0 0 1), (43, .i .i64 1), (44, .i .i64 0)] [(80, fbox zeF), (104, fbox ⟨3, 0, 0, 0, 0, 0, 0, 0, z32⟩), (376, rowS [sU 104 2 8] none)] = cond (gdK 3 bs) (okR (getF 3 bs)) (errR 3) := h
  generalize cond (gdK 3 bs) (okR (getF 3 bs)) (errR 3) = res at *
  have hu' := uz32.symm
  rw [← hl] at h21 c1 c2 c3
  simp only [fbox, frC, rowS, sU, box, zeF] at h c
  generalize uL z32 = z at *
  generalize byL bs = b at *
  simp -implicitDefEqProofs (maxSteps := 1000000) (disch := first | omega | rfl) [m20, h21, c, h, c1, c2, c3, hx, wk, hu', boxO, -List.reduceReplicate, KS, getS, getO, gS, zipN, dropW, takeW, wds, refs, refsL, refsEls, refsO, noExt, ren, keepO, keepS, keysO, refsS, refsOB, headC, boxO, putW, putB, -getElem?_pos, k_cnt, k_cnt0]
set_option maxHeartbeats 4000000 in
theorem R11_4 (M d : Nat) (bs : List Int) (hb : bs.length ≤ 64) (h3 : 3 ≤ bs.length) (hr : ∀ x ∈ bs, 0 ≤ x ∧ x ≤ 255) (hL : longF bs = bs.length) (hx : (byL bs)[2]? = some [.i .u8 4]) :
    m20 (sem tab (M + 1000) (d + 5)) (M + 1000) [.l false (byL bs)] [] = cond (gdK 4 bs) (okR (getF 4 bs)) (errR 3) := by
  have h := lp11_4 M d bs hb hr
  have h21 := V21 (M + 900) (d + 2) bs (by omega) hr
  rw [hL, show M + 900 + 100 = M + 1000 by omega, show d + 2 + 3 = d + 5 by omega] at h21
  have c : ca (sem tab (M + 1000) (d + 5)) [(104, fbox ⟨4, 0, 0, 0, 0, 0, 0, 0, z32⟩), (104, fbox zeF), (80, fbox zeF)] 376 false 34 [.p 104 0 0 0 none] = some (.tup [.sl 376 0 0 4, .b true], [(376, rowS [sU 104 2 8, sU 104 5 8, sN 104 6 1, sN 104 7 2] none), (104, fbox ⟨4, 0, 0, 0, 0, 0, 0, 0, z32⟩)]) := k_ca22 (sem tab (M + 1000) (d + 5)) [(104, fbox ⟨4, 0, 0, 0, 0, 0, 0, 0, z32⟩), (104, fbox zeF), (80, fbox zeF)] 376 104 _ ⟨4, 0, 0, 0, 0, 0, 0, 0, z32⟩ _ rfl rfl rfl (V22 (M + 1000) (d + 3) ⟨4, 0, 0, 0, 0, 0, 0, 0, z32⟩ rfl)
  have hl := byL_len bs
  have c1 : ¬ ((bs.length : Int) > 64) := by omega
  have c2 : ((bs.length : Int) == -1) = false := by simp
  have c3 : ((bs.length : Int) == 2) = false := by simp; omega
  have wk : IntKind.i64.wrap (4 : Int) = 4 := by decide
  rw [k_loop] at h
  have h : m20b0 (sem tab (M + 1000) (d + 5)) (M + 1000) [] (loopC (m20b0 (sem tab (M + 1000) (d + 5)) (M + 1000) []) (M + 999)) [(0, .l false (byL bs)), (2, .p 80 0 0 0 none), (5, .p 104 0 0 0 none), (7, .b true), (8, .i .i64 3), (42, .sl 376 0 0 4), (43, .i .i64 4), (44, .i .i64 0)] [(80, fbox zeF), (104, fbox ⟨4, 0, 0, 0, 0, 0, 0, 0, z32⟩), (376, rowS [sU 104 2 8, sU 104 5 8, sN 104 6 1, sN 104 7 2] none)] = cond (gdK 4 bs) (okR (getF 4 bs)) (errR 3) := h
  generalize cond (gdK 4 bs) (okR (getF 4 bs)) (errR 3) = res at *
  have hu' := uz32.symm
  rw [← hl] at h21 c1 c2 c3
  simp only [fbox, frC, rowS, sU, sN, box, zeF] at h c
  generalize uL z32 = z at *
  generalize byL bs = b at *
  simp -implicitDefEqProofs (maxSteps := 1000000) (disch := first | omega | rfl) [m20, h21, c, h, c1, c2, c3, hx, wk, hu', boxO, -List.reduceReplicate, KS, getS, getO, gS, zipN, dropW, takeW, wds, refs, refsL, refsEls, refsO, noExt, ren, keepO, keepS, keysO, refsS, refsOB, headC, boxO, putW, putB, -getElem?_pos, k_cnt, k_cnt0]
set_option maxHeartbeats 4000000 in
theorem R11_5 (M d : Nat) (bs : List Int) (hb : bs.length ≤ 64) (h3 : 3 ≤ bs.length) (hr : ∀ x ∈ bs, 0 ≤ x ∧ x ≤ 255) (hL : longF bs = bs.length) (hx : (byL bs)[2]? = some [.i .u8 5]) :
    m20 (sem tab (M + 1000) (d + 5)) (M + 1000) [.l false (byL bs)] [] = cond (gdK 5 bs) (okR (getF 5 bs)) (errR 3) := by
  have h := lp11_5 M d bs hb hr
  have h21 := V21 (M + 900) (d + 2) bs (by omega) hr
  rw [hL, show M + 900 + 100 = M + 1000 by omega, show d + 2 + 3 = d + 5 by omega] at h21
  have c : ca (sem tab (M + 1000) (d + 5)) [(104, fbox ⟨5, 0, 0, 0, 0, 0, 0, 0, z32⟩), (104, fbox zeF), (80, fbox zeF)] 376 false 34 [.p 104 0 0 0 none] = some (.tup [.sl 376 0 0 4, .b true], [(376, rowS [sU 104 2 8, sU 104 5 8, sN 104 6 1, sN 104 7 2] none), (104, fbox ⟨5, 0, 0, 0, 0, 0, 0, 0, z32⟩)]) := k_ca22 (sem tab (M + 1000) (d + 5)) [(104, fbox ⟨5, 0, 0, 0, 0, 0, 0, 0, z32⟩), (104, fbox zeF), (80, fbox zeF)] 376 104 _ ⟨5, 0, 0, 0, 0, 0, 0, 0, z32⟩ _ rfl rfl rfl (V22 (M + 1000) (d + 3) ⟨5, 0, 0, 0, 0, 0, 0, 0, z32⟩ rfl)
  have hl := byL_len bs
  have c1 : ¬ ((bs.length : Int) > 64) := by omega
  have c2 : ((bs.length : Int) == -1) = false := by simp
  have c3 : ((bs.length : Int) == 2) = false := by simp; omega
  have wk : IntKind.i64.wrap (5 : Int) = 5 := by decide
  rw [k_loop] at h
  have h : m20b0 (sem tab (M + 1000) (d + 5)) (M + 1000) [] (loopC (m20b0 (sem tab (M + 1000) (d + 5)) (M + 1000) []) (M + 999)) [(0, .l false (byL bs)), (2, .p 80 0 0 0 none), (5, .p 104 0 0 0 none), (7, .b true), (8, .i .i64 3), (42, .sl 376 0 0 4), (43, .i .i64 4), (44, .i .i64 0)] [(80, fbox zeF), (104, fbox ⟨5, 0, 0, 0, 0, 0, 0, 0, z32⟩), (376, rowS [sU 104 2 8, sU 104 5 8, sN 104 6 1, sN 104 7 2] none)] = cond (gdK 5 bs) (okR (getF 5 bs)) (errR 3) := h
  generalize cond (gdK 5 bs) (okR (getF 5 bs)) (errR 3) = res at *
  have hu' := uz32.symm
  rw [← hl] at h21 c1 c2 c3
  simp only [fbox, frC, rowS, sU, sN, box, zeF] at h c
  generalize uL z32 = z at *
  generalize byL bs = b at *
  simp -implicitDefEqProofs (maxSteps := 1000000) (disch := first | omega | rfl) [m20, h21, c, h, c1, c2, c3, hx, wk, hu', boxO, -List.reduceReplicate, KS, getS, getO, gS, zipN, dropW, takeW, wds, refs, refsL, refsEls, refsO, noExt, ren, keepO, keepS, keysO, refsS, refsOB, headC, boxO, putW, putB, -getElem?_pos, k_cnt, k_cnt0]
set_option maxHeartbeats 4000000 in
theorem R11_6 (M d : Nat) (bs : List Int) (hb : bs.length ≤ 64) (h3 : 3 ≤ bs.length) (hr : ∀ x ∈ bs, 0 ≤ x ∧ x ≤ 255) (hL : longF bs = bs.length) (hx : (byL bs)[2]? = some [.i .u8 6]) :
    m20 (sem tab (M + 1000) (d + 5)) (M + 1000) [.l false (byL bs)] [] = cond (gdK 6 bs) (okR (getF 6 bs)) (errR 3) := by
  have h := lp11_6 M d bs hb hr
  have h21 := V21 (M + 900) (d + 2) bs (by omega) hr
  rw [hL, show M + 900 + 100 = M + 1000 by omega, show d + 2 + 3 = d + 5 by omega] at h21
  have c : ca (sem tab (M + 1000) (d + 5)) [(104, fbox ⟨6, 0, 0, 0, 0, 0, 0, 0, z32⟩), (104, fbox zeF), (80, fbox zeF)] 376 false 34 [.p 104 0 0 0 none] = some (.tup [.sl 376 0 0 1, .b false], [(376, rowS [sN 104 6 1] (some 1)), (104, fbox ⟨6, 0, 0, 0, 0, 0, 0, 0, z32⟩)]) := k_ca22 (sem tab (M + 1000) (d + 5)) [(104, fbox ⟨6, 0, 0, 0, 0, 0, 0, 0, z32⟩), (104, fbox zeF), (80, fbox zeF)] 376 104 _ ⟨6, 0, 0, 0, 0, 0, 0, 0, z32⟩ _ rfl rfl rfl (V22 (M + 1000) (d + 3) ⟨6, 0, 0, 0, 0, 0, 0, 0, z32⟩ rfl)
  have hl := byL_len bs
  have c1 : ¬ ((bs.length : Int) > 64) := by omega
  have c2 : ((bs.length : Int) == -1) = false := by simp
  have c3 : ((bs.length : Int) == 2) = false := by simp; omega
  have wk : IntKind.i64.wrap (6 : Int) = 6 := by decide
  rw [k_loop] at h
  have h : m20b0 (sem tab (M + 1000) (d + 5)) (M + 1000) [] (loopC (m20b0 (sem tab (M + 1000) (d + 5)) (M + 1000) []) (M + 999)) [(0, .l false (byL bs)), (2, .p 80 0 0 0 none), (5, .p 104 0 0 0 none), (7, .b false), (8, .i .i64 3), (42, .sl 376 0 0 1), (43, .i .i64 1), (44, .i .i64 0)] [(80, fbox zeF), (104, fbox ⟨6, 0, 0, 0, 0, 0, 0, 0, z32⟩), (376, rowS [sN 104 6 1] (some 1))] = cond (gdK 6 bs) (okR (getF 6 bs)) (errR 3) := h
  generalize cond (gdK 6 bs) (okR (getF 6 bs)) (errR 3) = res at *
  have hu' := uz32.symm
  rw [← hl] at h21 c1 c2 c3
  simp only [fbox, frC, rowS, sN, box, zeF] at h c
  generalize uL z32 = z at *
  generalize byL bs = b at *
  simp -implicitDefEqProofs (maxSteps := 1000000) (disch := first | omega | rfl) [m20, h21, c, h, c1, c2, c3, hx, wk, hu', boxO, -List.reduceReplicate, KS, getS, getO, gS, zipN, dropW, takeW, wds, refs, refsL, refsEls, refsO, noExt, ren, keepO, keepS, keysO, refsS, refsOB, headC, boxO, putW, putB, -getElem?_pos, k_cnt, k_cnt0]
end
section
attribute [local congr] bnd_cg bndO_cg br_cg
theorem plain_kind (f : Fra) (h : inB f.kind 0 6 = false) : plainF f = false := by unfold plainF; rw [h]; rfl
set_option maxHeartbeats 4000000 in
theorem R11x (M d : Nat) (k : Int) (bs : List Int) (hk : inB k 0 6 = false) (h0 : 0 ≤ k ∧ k ≤ 255) (hb : bs.length ≤ 64) (h3 : 3 ≤ bs.length) (hr : ∀ x ∈ bs, 0 ≤ x ∧ x ≤ 255) (hL : longF bs = bs.length) (hx : (byL bs)[2]? = some [.i .u8 k]) :
    m20 (sem tab (M + 1000) (d + 5)) (M + 1000) [.l false (byL bs)] [] = errR 3 := by
  have o : okF ⟨k, 0, 0, 0, 0, 0, 0, 0, z32⟩ := ⟨okF_ze.sess, okF_ze.cn, okF_ze.count, z32_len, z32_range⟩
  have h10 := V10 (M + 900) d ⟨k, 0, 0, 0, 0, 0, 0, 0, z32⟩ o
  have hp := plain_kind ⟨k, 0, 0, 0, 0, 0, 0, 0, z32⟩ hk
  have e := e11u (sem tab (M + 1000) (d + 5)) (M + 1000) (loopC (m20b0 (sem tab (M + 1000) (d + 5)) (M + 1000) []) (M + 999)) bs bs [] (.e true) ⟨k, 0, 0, 0, 0, 0, 0, 0, z32⟩ false 0 3 rfl (by rw [hp] at h10; exact h10) (U95 M (d + 4) bs bs (by omega))
  rw [Bool.false_and, cond_false] at e
  have h21 := V21 (M + 900) (d + 2) bs (by omega) hr
  rw [hL, show M + 900 + 100 = M + 1000 by omega, show d + 2 + 3 = d + 5 by omega] at h21
  have c := k_ca22x (sem tab (M + 1000) (d + 5)) [(104, fbox ⟨k, 0, 0, 0, 0, 0, 0, 0, z32⟩), (104, fbox zeF), (80, fbox zeF)] 376 104 _ ⟨k, 0, 0, 0, 0, 0, 0, 0, z32⟩ rfl (V22x (M + 1000) (d + 3) ⟨k, 0, 0, 0, 0, 0, 0, 0, z32⟩ hk)
  have hl := byL_len bs
  have c1 : ¬ ((bs.length : Int) > 64) := by omega
  have c2 : ((bs.length : Int) == -1) = false := by simp
  have c3 : ((bs.length : Int) == 2) = false := by simp; omega
  have wk : IntKind.i64.wrap k = k := by rw [IntKind.wrap_i64]; omega
  generalize errR 3 = res at *
  have hu' := uz32.symm
  rw [← hl] at h21 c1 c2 c3
  clear h10
  simp only [sl11x, ob11x, fbox, frC, box, zeF] at e c
  generalize uL z32 = z at *
  generalize byL bs = b at *
  simp -implicitDefEqProofs (maxSteps := 1000000) (disch := first | omega | rfl) [m20, h21, c, e, c1, c2, c3, hx, wk, hu', boxO, -List.reduceReplicate, KS, getS, getO, gS, zipN, dropW, takeW, wds, refs, refsL, refsEls, refsO, noExt, ren, keepO, keepS, keysO, refsS, refsOB, headC, boxO, putW, putB, -getElem?_pos, k_cnt, k_cnt0]
theorem gdK_seem (bs : List Int) : gdK (bs.getD 2 0) bs = goodF bs := rfl
set_option maxHeartbeats 4000000 in
theorem V11 (M d : Nat) (bs : List Int) (hb : bs.length ≤ 10000) (hr : ∀ x ∈ bs, 0 ≤ x ∧ x ≤ 255) : sem tab (M + 1000) (d + 6) 20 [.l false (byL bs)] [] = outRd bs := by
  rw [sem_succ tab (M + 1000) (d + 5) 20 m20 rfl]
  have hl := byL_len bs
  have bad : (longF bs = bs.length → bs.length ≤ 54 → 4 ≤ bs.length → False) → goodF bs = false := fun h => by
    rw [← Bool.not_eq_true]; intro hg
    obtain ⟨g1, g2, g3⟩ := good_len hr hg
    exact h g1 g2 g3
  unfold outRd errF
  have hu' := uz32.symm
  by_cases c1 : (bs.length : Int) > 64
  · rw [bad (by omega), cond_false, if_pos (by omega)]
    unfold errR
    rw [← hl] at c1
    simp only [frC, zeF]
    generalize uL z32 = z at *
    generalize byL bs = b at *
    simp -implicitDefEqProofs (maxSteps := 1000000) (disch := first | omega | rfl) [m20, c1, hu', boxO, -List.reduceReplicate, KS, getS, getO, gS, zipN, dropW, takeW, wds, sea, seaL, refs, refsL, boxO, putW, putB, putB1, -getElem?_pos]
  have h21 := V21 (M + 900) (d + 2) bs (by omega) hr
  rw [show M + 900 + 100 = M + 1000 by omega, show d + 2 + 3 = d + 5 by omega] at h21
  rw [if_neg (show ¬ 64 < bs.length by omega)]
  by_cases c2 : longF bs = -1
  · rw [bad (by omega), cond_false, if_pos c2]
    unfold errR
    rw [c2] at h21
    rw [← hl] at c1
    simp only [frC, zeF]
    generalize uL z32 = z at *
    generalize byL bs = b at *
    simp -implicitDefEqProofs (maxSteps := 1000000) (disch := first | omega | rfl) [m20, h21, c1, hu', boxO, -List.reduceReplicate, KS, getS, getO, gS, zipN, dropW, takeW, wds, sea, seaL, refs, refsL, noExt, ren, boxO, putW, putB, putB1, -getElem?_pos]
  rw [if_neg c2]
  by_cases c3 : longF bs = bs.length ∧ longF bs ≠ 2
  · obtain ⟨c3, c4⟩ := c3
    have h3 : 3 ≤ bs.length := by
      rcases long_cases bs hr with h | h <;> omega
    have h2 : 2 < bs.length := by omega
    have hk := hr bs[2] (List.getElem_mem h2)
    have hx : (byL bs)[2]? = some [.i .u8 bs[2]] := by simp [byL, h2]
    have hg : bs.getD 2 0 = bs[2] := by simp [List.getD, h2]
    rw [← gdK_seem, seemF, hg]
    generalize bs[2] = k at *
    cases hi : inB k 0 6
    · have hp : plainF (getF k bs) = false := by
        have : (getF k bs).kind = k := by
          have hh : ¬ (0 ≤ k ∧ k ≤ 6) := by intro h; simp [inB, h.1, h.2] at hi
          unfold getF
          rw [if_neg (by omega), if_neg (by omega), if_neg (by omega), if_neg (by omega), if_neg (by omega), if_neg (by omega)]
        exact plain_kind _ (by rw [this]; exact hi)
      have : gdK k bs = false := by unfold gdK; rw [hp]; rfl
      rw [this, cond_false]
      exact R11x M d k bs hi hk (by omega) h3 hr c3 hx
    · rcases kinds hi with e | e | e | e | e | e | e <;> subst e
      · exact R11_0 M d bs (by omega) h3 hr c3 hx
      · exact R11_1 M d bs (by omega) h3 hr c3 hx
      · exact R11_2 M d bs (by omega) h3 hr c3 hx
      · exact R11_3 M d bs (by omega) h3 hr c3 hx
      · exact R11_4 M d bs (by omega) h3 hr c3 hx
      · exact R11_5 M d bs (by omega) h3 hr c3 hx
      · exact R11_6 M d bs (by omega) h3 hr c3 hx
  · rw [bad (by omega), cond_false]
    unfold errR
    have c2' : (longF bs == -1) = false := by simp [c2]
    by_cases c4 : longF bs = bs.length
    · have c5 : longF bs = 2 := by omega
      have c6 : (bs.length : Int) = 2 := by omega
      rw [c5] at h21
      rw [← hl] at c1 c6
      simp only [frC, zeF]
      generalize uL z32 = z at *
      generalize byL bs = b at *
      simp -implicitDefEqProofs (maxSteps := 1000000) (disch := first | omega | rfl) [m20, h21, c6, hu', boxO, -List.reduceReplicate, KS, getS, getO, gS, zipN, dropW, takeW, wds, sea, seaL, refs, refsL, noExt, ren, boxO, putW, putB, putB1, -getElem?_pos]
    · have c5 : (longF bs != (bs.length : Int)) = true := by simp [c4]
      generalize longF bs = l at *
      rw [← hl] at c1 c5
      simp only [frC, zeF]
      generalize uL z32 = z at *
      generalize byL bs = b at *
      simp -implicitDefEqProofs (maxSteps := 1000000) (disch := first | omega | rfl) [m20, h21, c1, c2', c5, hu', boxO, -List.reduceReplicate, KS, getS, getO, gS, zipN, dropW, takeW, wds, sea, seaL, refs, refsL, noExt, ren, boxO, putW, putB, putB1, -getElem?_pos]
end
section
theorem chars_injF : ∀ xs ys : List Int, (∀ x ∈ xs, 0 ≤ x ∧ x ≤ 255) → (∀ x ∈ ys, 0 ≤ x ∧ x ≤ 255) → chars xs = chars ys → xs = ys
  | [], [], _, _, _ => rfl
  | [], _ :: _, _, _, h => by simp [chars] at h
  | _ :: _, [], _, _, h => by simp [chars] at h
  | x :: r, y :: s, hx, hy, h => by
    simp only [chars, List.map_cons, List.cons.injEq] at h
    have h1 := chars_injF r s (fun z hz => hx z (List.mem_cons_of_mem _ hz)) (fun z hz => hy z (List.mem_cons_of_mem _ hz)) (by simpa [chars] using h.2)
    have h2 := congrArg UInt8.toNat h.1
    have a := hx x (by simp)
    have b := hy y (by simp)
    rw [UInt8.toNat_ofNat', UInt8.toNat_ofNat'] at h2
    rw [h1, show x = y by omega]
theorem dec_charsF (xs ys : List Int) (hx : ∀ x ∈ xs, 0 ≤ x ∧ x ≤ 255) (hy : ∀ x ∈ ys, 0 ≤ x ∧ x ≤ 255) : decide (chars xs = chars ys) = decide (xs = ys) := by
  by_cases h : xs = ys
  · simp [h]
  · rw [decide_eq_false h, decide_eq_false (fun e => h (chars_injF xs ys hx hy e))]
theorem eSt_frn (neg : Bool) (f g : Fra) (hf : f.tag.length = 32) (hg : g.tag.length = 32) : eSt neg [.i, .i, .i, .i, .i, .i, .i, .i, .a 32] (.agg (frC f)) (.agg (frC g)) = some (.b (eqFr f g ^^ neg)) := by
  have h := eqIs_uL f.tag g.tag (by rw [hf, hg])
  simp only [eSt, frC, eqSh, eqS1, andRR, andR, and_self, h, notR, eqFr]
  simp
end
section
attribute [local congr] bnd_cg bndO_cg br_cg
theorem tagd_kind {k : Int} (h : tagdF k = true) : 2 ≤ k ∧ k ≤ 5 := by
  unfold tagdF inB at h
  rw [Bool.and_eq_true, decide_eq_true_eq, decide_eq_true_eq] at h
  exact h
theorem R53_0 (N d : Nat) (a2 a3 a4 a5 a6 a7 a8 : Int) (a9 : List Int) : sem tab N (d + 1) 59 [.agg (frC ⟨0, a2, a3, a4, a5, a6, a7, a8, a9⟩)] [] = some (.tup [.sl 0 0 0 2, .b false], [row (nuL [(IntKind.u64.wrap a2, 1), (a4, 8)]) 2 true]) := by
  kernel_rfl
theorem R53_1 (N d : Nat) (a2 a3 a4 a5 a6 a7 a8 : Int) (a9 : List Int) : sem tab N (d + 1) 59 [.agg (frC ⟨1, a2, a3, a4, a5, a6, a7, a8, a9⟩)] [] = some (.tup [.sl 0 0 0 2, .b false], [row (nuL [(a3, 8), (IntKind.u64.wrap a5, 4)]) 2 true]) := by
  kernel_rfl
theorem R53_2 (N d : Nat) (a2 a3 a4 a5 a6 a7 a8 : Int) (a9 : List Int) : sem tab N (d + 1) 59 [.agg (frC ⟨2, a2, a3, a4, a5, a6, a7, a8, a9⟩)] [] = some (.tup [.sl 0 0 0 1, .b true], [row (nuL [(a3, 8)]) 2 true]) := by
  kernel_rfl
theorem R53_3 (N d : Nat) (a2 a3 a4 a5 a6 a7 a8 : Int) (a9 : List Int) : sem tab N (d + 1) 59 [.agg (frC ⟨3, a2, a3, a4, a5, a6, a7, a8, a9⟩)] [] = some (.tup [.sl 0 0 0 1, .b true], [row (nuL [(a3, 8)]) 2 true]) := by
  kernel_rfl
theorem R53_4 (N d : Nat) (a2 a3 a4 a5 a6 a7 a8 : Int) (a9 : List Int) : sem tab N (d + 1) 59 [.agg (frC ⟨4, a2, a3, a4, a5, a6, a7, a8, a9⟩)] [] = some (.tup [.sl 0 0 0 4, .b true], [row (nuL [(a3, 8), (a6, 8), (IntKind.u64.wrap a7, 1), (IntKind.u64.wrap a8, 2)]) 2 true]) := by
  kernel_rfl
theorem R53_5 (N d : Nat) (a2 a3 a4 a5 a6 a7 a8 : Int) (a9 : List Int) : sem tab N (d + 1) 59 [.agg (frC ⟨5, a2, a3, a4, a5, a6, a7, a8, a9⟩)] [] = some (.tup [.sl 0 0 0 4, .b true], [row (nuL [(a3, 8), (a6, 8), (IntKind.u64.wrap a7, 1), (IntKind.u64.wrap a8, 2)]) 2 true]) := by
  kernel_rfl
theorem R53_6 (N d : Nat) (a2 a3 a4 a5 a6 a7 a8 : Int) (a9 : List Int) : sem tab N (d + 1) 59 [.agg (frC ⟨6, a2, a3, a4, a5, a6, a7, a8, a9⟩)] [] = some (.tup [.sl 0 0 0 1, .b false], [row (nuL [(IntKind.u64.wrap a7, 1)]) 2 true]) := by
  kernel_rfl
structure BdF (f : Fra) : Prop where
  kind : inB f.kind 0 6 = true
  user : 0 ≤ f.user ∧ f.user ≤ 255
  epoch : 0 ≤ f.epoch ∧ f.epoch ≤ 1073741824
  cmd : 0 ≤ f.cmd ∧ f.cmd ≤ 255
  arg : 0 ≤ f.arg ∧ f.arg ≤ 65535
theorem R53 (N d : Nat) (f : Fra) (h : BdF f) : sem tab N (d + 1) 59 [.agg (frC f)] [] = some (.tup [.sl 0 0 0 (numsF f).length, .b (tagdF f.kind)], [row (nuL (numsF f)) 2 true]) := by
  have hk := kinds h.kind
  obtain ⟨_, h2, h3, h4, h5⟩ := h
  obtain ⟨a1, a2, a3, a4, a5, a6, a7, a8, a9⟩ := f
  simp only at hk h2 h3 h4 h5
  have u2 := wu64 h2.1 (by omega)
  have u3 := wu64 h3.1 (by omega)
  have u4 := wu64 h4.1 (by omega)
  have u5 := wu64 h5.1 (by omega)
  rcases hk with e | e | e | e | e | e | e <;> subst e
  · rw [R53_0, u2]; rfl
  · rw [R53_1, u3]; rfl
  · rw [R53_2]; rfl
  · rw [R53_3]; rfl
  · rw [R53_4, u4, u5]; rfl
  · rw [R53_5, u4, u5]; rfl
  · rw [R53_6, u4]; rfl
def u64L (l : List Int) : List (List PV) := l.map fun n => [.i .u64 n]
theorem R54_0 (N d : Nat) (x y : Int) : sem tab N (d + 1) 61 [.i .i64 0, .l false (u64L [x, y])] [] = some (.agg (frC ⟨0, IntKind.i64.wrap x, 0, y, 0, 0, 0, 0, z32⟩), []) := by
  kernel_rfl
theorem R54_1 (N d : Nat) (x y : Int) : sem tab N (d + 1) 61 [.i .i64 1, .l false (u64L [x, y])] [] = some (.agg (frC ⟨1, 0, x, 0, IntKind.i64.wrap y, 0, 0, 0, z32⟩), []) := by
  kernel_rfl
theorem R54_2 (N d : Nat) (x : Int) : sem tab N (d + 1) 61 [.i .i64 2, .l false (u64L [x])] [] = some (.agg (frC ⟨2, 0, x, 0, 0, 0, 0, 0, z32⟩), []) := by
  kernel_rfl
theorem R54_3 (N d : Nat) (x : Int) : sem tab N (d + 1) 61 [.i .i64 3, .l false (u64L [x])] [] = some (.agg (frC ⟨3, 0, x, 0, 0, 0, 0, 0, z32⟩), []) := by
  kernel_rfl
theorem R54_4 (N d : Nat) (x y z w : Int) : sem tab N (d + 1) 61 [.i .i64 4, .l false (u64L [x, y, z, w])] [] = some (.agg (frC ⟨4, 0, x, 0, 0, y, IntKind.i64.wrap z, IntKind.i64.wrap w, z32⟩), []) := by
  kernel_rfl
theorem R54_5 (N d : Nat) (x y z w : Int) : sem tab N (d + 1) 61 [.i .i64 5, .l false (u64L [x, y, z, w])] [] = some (.agg (frC ⟨5, 0, x, 0, 0, y, IntKind.i64.wrap z, IntKind.i64.wrap w, z32⟩), []) := by
  kernel_rfl
theorem R54_6 (N d : Nat) (x : Int) : sem tab N (d + 1) 61 [.i .i64 6, .l false (u64L [x])] [] = some (.agg (frC ⟨6, 0, 0, 0, 0, 0, IntKind.i64.wrap x, 0, z32⟩), []) := by
  kernel_rfl
def bareU (f : Fra) : Fra := { bareF f with tag := z32 }
theorem wi64 {n : Int} (h0 : 0 ≤ n) (h1 : n ≤ 1073741824) : IntKind.i64.wrap n = n := by rw [IntKind.wrap_i64]; omega
theorem R54 (N d : Nat) (f : Fra) (h : BdF f) : sem tab N (d + 1) 61 [.i .i64 f.kind, .l false (u64L ((numsF f).map (·.1)))] [] = some (.agg (frC (bareU f)), []) := by
  have hk := kinds h.kind
  obtain ⟨_, h2, h3, h4, h5⟩ := h
  obtain ⟨a1, a2, a3, a4, a5, a6, a7, a8, a9⟩ := f
  simp only at hk h2 h3 h4 h5
  have u2 := wi64 h2.1 (by omega)
  have u3 := wi64 h3.1 (by omega)
  have u4 := wi64 h4.1 (by omega)
  have u5 := wi64 h5.1 (by omega)
  rcases hk with e | e | e | e | e | e | e <;> subst e
  · have := R54_0 N d a2 a4; rw [u2] at this; exact this
  · have := R54_1 N d a3 a5; rw [u3] at this; exact this
  · exact R54_2 N d a3
  · exact R54_3 N d a3
  · have := R54_4 N d a3 a6 a7 a8; rw [u4, u5] at this; exact this
  · have := R54_5 N d a3 a6 a7 a8; rw [u4, u5] at this; exact this
  · have := R54_6 N d a7; rw [u4] at this; exact this
def sl44 (t : Bool) (n i : Nat) : SL := [(1, .p 72 0 0 0 none), (3, .sl 528 0 0 n), (4, .b t), (5, .sl 111 0 0 i), (6, .i .i64 i)]
def ob44 (f : Fra) (l : List (Int × Nat)) (r : List Int) : OB := [(111, row (u64L r) 1 true), (72, fbox f), (528, row (nuL l) 2 true)]
theorem L44_1 (Φ : Sem') (N M : Nat) (t : Bool) (f : Fra) (x : Int) (k : Nat) : m68b0 Φ N [] (loopC (m68b0 Φ N []) (M + 1)) (sl44 t 1 0) (ob44 f [(x, k)] []) = m68b0 Φ N [] (loopC (m68b0 Φ N []) M) (sl44 t 1 1) (ob44 f [(x, k)] [x]) := by
  kernel_rfl
theorem L44_2 (Φ : Sem') (N M : Nat) (t : Bool) (f : Fra) (x y : Int) (k l : Nat) : m68b0 Φ N [] (loopC (m68b0 Φ N []) (M + 2)) (sl44 t 2 0) (ob44 f [(x, k), (y, l)] []) = m68b0 Φ N [] (loopC (m68b0 Φ N []) M) (sl44 t 2 2) (ob44 f [(x, k), (y, l)] [x, y]) := by
  kernel_rfl
theorem L44_4 (Φ : Sem') (N M : Nat) (t : Bool) (f : Fra) (x y z w : Int) (k l m n : Nat) : m68b0 Φ N [] (loopC (m68b0 Φ N []) (M + 4)) (sl44 t 4 0) (ob44 f [(x, k), (y, l), (z, m), (w, n)] []) = m68b0 Φ N [] (loopC (m68b0 Φ N []) M) (sl44 t 4 4) (ob44 f [(x, k), (y, l), (z, m), (w, n)] [x, y, z, w]) := by
  kernel_rfl
theorem lp44 (Φ : Sem') (N M : Nat) (t : Bool) (f : Fra) : ∃ M', m68b0 Φ N [] (loopC (m68b0 Φ N []) (M + 4)) (sl44 t (numsF f).length 0) (ob44 f (numsF f) []) = m68b0 Φ N [] (loopC (m68b0 Φ N []) M') (sl44 t (numsF f).length (numsF f).length) (ob44 f (numsF f) ((numsF f).map (·.1))) := by
  unfold numsF
  repeat' split
  · exact ⟨_, L44_2 Φ N (M + 2) t f _ _ _ _⟩
  · exact ⟨_, L44_2 Φ N (M + 2) t f _ _ _ _⟩
  · exact ⟨_, L44_1 Φ N (M + 3) t f _ _⟩
  · exact ⟨_, L44_1 Φ N (M + 3) t f _ _⟩
  · exact ⟨_, L44_4 Φ N M t f _ _ _ _ _ _ _ _⟩
  · exact ⟨_, L44_4 Φ N M t f _ _ _ _ _ _ _ _⟩
  · exact ⟨_, L44_1 Φ N (M + 3) t f _ _⟩
theorem u64L_len (l : List Int) : (u64L l).length = l.length := by simp [u64L]
theorem bare_tagged (f : Fra) (h : tagdF f.kind = true) : ({ bareU f with tag := f.tag } : Fra) = bareF f := by
  have h := tagd_kind h
  obtain ⟨a1, a2, a3, a4, a5, a6, a7, a8, a9⟩ := f
  simp only at h
  have hk : a1 = 2 ∨ a1 = 3 ∨ a1 = 4 ∨ a1 = 5 := by omega
  rcases hk with e | e | e | e <;> subst e <;> rfl
theorem bare_not (f : Fra) (hk : inB f.kind 0 6 = true) (h : tagdF f.kind = false) : bareU f = bareF f := by
  have hk := kinds hk
  obtain ⟨a1, a2, a3, a4, a5, a6, a7, a8, a9⟩ := f
  simp only at h hk
  rcases hk with e | e | e | e | e | e | e <;> subst e <;> first | rfl | (exact absurd h (by decide))
theorem bareU_tag (f : Fra) : (bareU f).tag = z32 := rfl
set_option maxHeartbeats 8000000 in
theorem end44 (N d : Nat) (g : SL → OB → Option R) (f : Fra) (h : BdF f) (o : okF f) : m68b0 (sem tab N (d + 1)) N [] g (sl44 (tagdF f.kind) (numsF f).length (numsF f).length) (ob44 f (numsF f) ((numsF f).map (·.1))) = some (.b (eqFr (bareF f) f), []) := by
  have h54 := R54 N d f h
  have hl := u64L_len ((numsF f).map (·.1))
  rw [List.length_map] at hl
  have ht : List.take (numsF f).length (u64L ((numsF f).map (·.1))) = u64L ((numsF f).map (·.1)) := List.take_of_length_le (by omega)
  have zl2 : (uL z32).length = 32 := by rw [uL_len]; rfl
  have fl : (uL f.tag).length = 32 := by rw [uL_len, o.tag]
  have hu' := uz32.symm
  have ut := bareU_tag f
  unfold sl44 ob44
  generalize u64L ((numsF f).map (·.1)) = r at *
  generalize nuL (numsF f) = s at *
  generalize (numsF f).length = n at *
  cases t : tagdF f.kind
  · have es := eSt_frn false (bareU f) f (by rw [ut]; rfl) o.tag
    rw [bare_not f h.kind t] at es h54 ut
    have bt := bareF_tag f o.tag
    generalize eqFr (bareF f) f = e at *
    generalize bareF f = b at *
    obtain ⟨b1, b2, b3, b4, b5, b6, b7, b8, b9⟩ := b
    obtain ⟨a1, a2, a3, a4, a5, a6, a7, a8, a9⟩ := f
    simp only [fbox, box, frC, row] at *
    subst ut
    generalize uL a9 = q at *
    generalize uL z32 = z at *
    simp -implicitDefEqProofs (maxSteps := 1000000) (disch := first | omega | rfl) [m68b0, h54, hl, ht, es, hu', -List.reduceReplicate, boxO, KS, getS, getO, gS, dropW, takeW, wds, stvs, refs, refsL, isPureEls, noExt, noExts, noExtEls, cellsL, ren, renL, boxO, putW, -getElem?_pos]
  · have es := eSt_frn false ({ bareU f with tag := f.tag } : Fra) f o.tag o.tag
    rw [bare_tagged f t] at es
    have e2 : frC (bareF f) = frC ({ bareU f with tag := f.tag } : Fra) := by rw [bare_tagged f t]
    rw [e2] at es
    clear e2
    generalize eqFr (bareF f) f = e at *
    generalize bareU f = b at *
    obtain ⟨b1, b2, b3, b4, b5, b6, b7, b8, b9⟩ := b
    obtain ⟨a1, a2, a3, a4, a5, a6, a7, a8, a9⟩ := f
    simp only [fbox, box, frC, row] at *
    subst ut
    generalize uL a9 = q at *
    generalize uL z32 = z at *
    simp -implicitDefEqProofs (maxSteps := 1000000) (disch := first | omega | rfl) [m68b0, h54, hl, ht, es, hu', -List.reduceReplicate, boxO, KS, getS, getO, gS, dropW, takeW, wds, stvs, refs, refsL, isPureEls, noExt, noExts, noExtEls, cellsL, ren, renL, boxO, putW, -getElem?_pos]
set_option maxHeartbeats 8000000 in
theorem st44 (Φ : Sem') (N : Nat) (f : Fra) (h : BdF f) (t : Bool) (n : Nat) (l : List (List PV)) (hl : l.length = n) (H : Φ 59 [.agg (frC f)] [] = some (.tup [.sl 0 0 0 n, .b t], [row l 2 true])) : m68 Φ (N + 1) [.agg (frC f)] [] = m68b0 Φ (N + 1) [] (loopC (m68b0 Φ (N + 1) []) N) (sl44 t n 0) [(111, row (u64L []) 1 true), (72, fbox f), (528, row l 2 true)] := by
  have hk := kinds h.kind
  obtain ⟨_, p2, p3, p4, p5⟩ := h
  obtain ⟨a1, a2, a3, a4, a5, a6, a7, a8, a9⟩ := f
  simp only at p2 p3 p4 p5 hk
  have c1 : ¬ a1 < 0 := by omega
  have c2 : ¬ a1 ≥ 7 := by omega
  have c3 : ¬ a2 < 0 := by omega
  have c4 : ¬ a2 > 255 := by omega
  have c5 : ¬ a5 < 0 := by omega
  have c6 : ¬ a5 > 1073741824 := by omega
  have c7 : ¬ a7 < 0 := by omega
  have c8 : ¬ a7 > 255 := by omega
  have c9 : ¬ a8 < 0 := by omega
  have ca : ¬ a8 > 65535 := by omega
  simp only [sl44, fbox, box, frC, row, u64L, List.map_nil] at *
  generalize uL a9 = q at *
  simp -implicitDefEqProofs (maxSteps := 1000000) (disch := first | omega | rfl) [m68, H, c1, c2, c3, c4, c5, c6, c7, c8, c9, ca, boxO, KS, getS, getO, gS, zipN, dropW, takeW, wds, refs, refsL, refsEls, refsO, noExt, noExts, ren, renL, keepO, keepS, keysO, refsS, refsOB, headC, setS, boxO, row, newOs, renO, noExtO, -getElem?_pos, k_cnt, k_cnt0]
theorem pl_bd {f : Fra} (h : PlF f) : BdF f := ⟨h.kind, h.user, h.epoch, h.cmd, h.arg⟩
set_option maxHeartbeats 16000000 in
theorem out44 (Φ : Sem') (N : Nat) (f : Fra) (h : ¬ BdF f) : m68 Φ N [.agg (frC f)] [] = some (.b false, []) := by
  obtain ⟨a1, a2, a3, a4, a5, a6, a7, a8, a9⟩ := f
  simp only [frC]
  generalize uL a9 = q
  by_cases c0 : a1 < 0
  · clear h
    simp -implicitDefEqProofs (maxSteps := 1000000) (disch := first | omega | rfl) [m68, c0, boxO, KS, getS, getO, gS, zipN, dropW, takeW, wds, refs, refsL, boxO, -getElem?_pos]
  by_cases c1 : a1 ≥ 7
  · clear h
    simp -implicitDefEqProofs (maxSteps := 1000000) (disch := first | omega | rfl) [m68, c0, c1, boxO, KS, getS, getO, gS, zipN, dropW, takeW, wds, refs, refsL, boxO, -getElem?_pos]
  by_cases c2 : a2 < 0
  · clear h
    simp -implicitDefEqProofs (maxSteps := 1000000) (disch := first | omega | rfl) [m68, c0, c1, c2, boxO, KS, getS, getO, gS, zipN, dropW, takeW, wds, refs, refsL, boxO, -getElem?_pos]
  by_cases c3 : a2 > 255
  · clear h
    simp -implicitDefEqProofs (maxSteps := 1000000) (disch := first | omega | rfl) [m68, c0, c1, c2, c3, boxO, KS, getS, getO, gS, zipN, dropW, takeW, wds, refs, refsL, boxO, -getElem?_pos]
  by_cases c4 : a5 < 0
  · clear h
    simp -implicitDefEqProofs (maxSteps := 1000000) (disch := first | omega | rfl) [m68, c0, c1, c2, c3, c4, boxO, KS, getS, getO, gS, zipN, dropW, takeW, wds, refs, refsL, boxO, -getElem?_pos]
  by_cases c5 : a5 > 1073741824
  · clear h
    simp -implicitDefEqProofs (maxSteps := 1000000) (disch := first | omega | rfl) [m68, c0, c1, c2, c3, c4, c5, boxO, KS, getS, getO, gS, zipN, dropW, takeW, wds, refs, refsL, boxO, -getElem?_pos]
  by_cases c6 : a7 < 0
  · clear h
    simp -implicitDefEqProofs (maxSteps := 1000000) (disch := first | omega | rfl) [m68, c0, c1, c2, c3, c4, c5, c6, boxO, KS, getS, getO, gS, zipN, dropW, takeW, wds, refs, refsL, boxO, -getElem?_pos]
  by_cases c7 : a7 > 255
  · clear h
    simp -implicitDefEqProofs (maxSteps := 1000000) (disch := first | omega | rfl) [m68, c0, c1, c2, c3, c4, c5, c6, c7, boxO, KS, getS, getO, gS, zipN, dropW, takeW, wds, refs, refsL, boxO, -getElem?_pos]
  by_cases c8 : a8 < 0
  · clear h
    simp -implicitDefEqProofs (maxSteps := 1000000) (disch := first | omega | rfl) [m68, c0, c1, c2, c3, c4, c5, c6, c7, c8, boxO, KS, getS, getO, gS, zipN, dropW, takeW, wds, refs, refsL, boxO, -getElem?_pos]
  by_cases c9 : a8 > 65535
  · clear h
    simp -implicitDefEqProofs (maxSteps := 1000000) (disch := first | omega | rfl) [m68, c0, c1, c2, c3, c4, c5, c6, c7, c8, c9, boxO, KS, getS, getO, gS, zipN, dropW, takeW, wds, refs, refsL, boxO, -getElem?_pos]
  exact absurd ⟨by unfold inB; rw [Bool.and_eq_true, decide_eq_true_eq, decide_eq_true_eq]; simp only; omega, by simp only; omega, by simp only; omega, by simp only; omega, by simp only; omega⟩ h
theorem R44 (N d : Nat) (f : Fra) (o : okF f) : sem tab (N + 100) (d + 2) 68 [.agg (frC f)] [] = some (.b (plainF f), []) := by
  rw [sem_succ tab (N + 100) (d + 1) 68 m68 rfl]
  by_cases h : BdF f
  · have h53 := R53 (N + 100) d f h
    rw [st44 (sem tab (N + 100) (d + 1)) (N + 99) f h (tagdF f.kind) (numsF f).length (nuL (numsF f)) (by simp [nuL]) h53]
    obtain ⟨M', e⟩ := lp44 (sem tab (N + 100) (d + 1)) (N + 100) (N + 95) (tagdF f.kind) f
    refine Eq.trans e ?_
    rw [end44 (N + 100) d _ f h o]
    have hp : plainF f = eqFr (bareF f) f := by
      have i2 : inB f.user 0 255 = true := by unfold inB; rw [Bool.and_eq_true, decide_eq_true_eq, decide_eq_true_eq]; exact h.user
      have i3 : inB f.epoch 0 1073741824 = true := by unfold inB; rw [Bool.and_eq_true, decide_eq_true_eq, decide_eq_true_eq]; exact h.epoch
      have i4 : inB f.cmd 0 255 = true := by unfold inB; rw [Bool.and_eq_true, decide_eq_true_eq, decide_eq_true_eq]; exact h.cmd
      have i5 : inB f.arg 0 65535 = true := by unfold inB; rw [Bool.and_eq_true, decide_eq_true_eq, decide_eq_true_eq]; exact h.arg
      unfold plainF
      rw [h.kind, i2, i3, i4, i5]
      rfl
    rw [hp]
  · rw [out44 _ _ f h]
    cases hp : plainF f
    · rfl
    · exact absurd (pl_bd ((plainF_iff f).1 hp)) h
end
section
attribute [local congr] bnd_cg bndO_cg br_cg
theorem front_eq (f : Fra) (h : inB f.kind 0 6 = true) : frontF f = 0 :: (szF f.kind : Int) :: f.kind :: catB (numsF f) := by
  unfold frontF allF
  simp only [catB]
  have h1 : be 1 f.kind = [f.kind] := by
    rcases kinds h with e | e | e | e | e | e | e <;> rw [e] <;> rfl
  have h2 : be 2 (szF f.kind : Int) = [0, (szF f.kind : Int)] := by
    rcases kinds h with e | e | e | e | e | e | e <;> rw [e] <;> rfl
  rw [h1, h2]
  rfl
theorem sz_eq (f : Fra) (h : inB f.kind 0 6 = true) : szF f.kind = 1 + (catB (numsF f)).length + cond (tagdF f.kind) 32 0 := by
  have e := front_eq f h
  have l := frontF_len f
  rw [e] at l
  simp only [List.length_cons] at l
  rcases kinds h with e | e | e | e | e | e | e <;> rw [e] at l ⊢ <;> simp [aheadF, szF, tagdF, inB] at l ⊢ <;> omega
set_option maxHeartbeats 8000000 in
theorem R45 (N d : Nat) (f : Fra) (h : PlF f) (o : okF f) : sem tab (N + 100) (d + 4) 69 [.agg (frC f)] [] = some (.tup [.sl 0 0 0 (aheadF f.kind), .b (tagdF f.kind)], [row (byL (frontF f)) 1 true]) := by
  rw [sem_succ tab (N + 100) (d + 3) 69 m69 rfl]
  have h53 : sem tab (N + 100) (d + 3) 59 [.agg (frC f)] [] = _ := R53 (N + 100) (d + 2) f (pl_bd h)
  have hf := fitAll_allF f h o
  have ho := okNu_allF f h o
  have hf : fitAll (numsF f) = true := by
    unfold allF at hf
    simp only [fitAll, Bool.and_eq_true] at hf
    exact hf.2.2
  have h90 := U90c N d (numsF f) (by have := numsF_len f; omega) (fun x hx => ho x (by unfold allF; simp [hx]))
  rw [hf, cond_true] at h90
  have nl := nuL_len (numsF f)
  have nt : List.take (numsF f).length (nuL (numsF f)) = nuL (numsF f) := List.take_of_length_le (by omega)
  have sz := sz_eq f h.kind
  have ha := aheadF_le f.kind
  have fe := front_eq f h.kind
  have fl := frontF_len f
  have kr := kinds h.kind
  have hs := szF_le f.kind
  have bl := byL_len (catB (numsF f))
  have wt := allW_by (catB (numsF f))
  have ft := flat_by (catB (numsF f))
  have bt : List.take (catB (numsF f)).length (byL (catB (numsF f))) = byL (catB (numsF f)) := List.take_of_length_le (by omega)
  have ne : 1 ≤ (catB (numsF f)).length := by rw [fe] at fl; simp only [List.length_cons] at fl; omega
  have ls : (catB (numsF f)).length + 3 = aheadF f.kind := by rw [fe] at fl; simp only [List.length_cons] at fl; omega
  have w3 : IntKind.u8.wrap f.kind = f.kind := by rw [IntKind.wrap_u8]; omega
  have w4 : ∀ n : Int, 0 ≤ n ∧ n ≤ 255 → IntKind.u8.wrap n = n := fun n hn => by rw [IntKind.wrap_u8]; omega
  rw [fe]
  rw [show byL (0 :: (szF f.kind : Int) :: f.kind :: catB (numsF f)) = [.i .u8 0] :: [.i .u8 (szF f.kind : Int)] :: [.i .u8 f.kind] :: byL (catB (numsF f)) from rfl]
  rw [sz, ← ls]
  have w5 := w4 (1 + ((catB (numsF f)).length : Int)) (by omega)
  have w6 := w4 (1 + ((catB (numsF f)).length : Int) + 32) (by omega)
  have t2 : ∀ a b c : List PV, List.take ((catB (numsF f)).length + 3) (a :: b :: c :: byL (catB (numsF f))) = a :: b :: c :: byL (catB (numsF f)) := fun a b c => List.take_of_length_le (by simp [bl])
  clear sz fe fl hs w4
  generalize byL (catB (numsF f)) = y at *
  generalize (catB (numsF f)).length = m at *
  generalize nuL (numsF f) = s at *
  generalize (numsF f).length = n at *
  clear hf ho o h
  generalize tagdF f.kind = t at *
  obtain ⟨a1, a2, a3, a4, a5, a6, a7, a8, a9⟩ := f
  simp only [frC, row] at *
  generalize uL a9 = q at *
  have g1 : ¬ (3 + m ≤ 3) := by omega
  have g2 : 3 + m ≤ 4294967296 := by omega
  have g3 : m ≤ 22 := by omega
  have g4 : m ≠ 0 := by omega
  have g5 : m ≤ 4294967293 := by omega
  cases t <;>
  simp -implicitDefEqProofs (maxSteps := 1000000) (disch := first | omega | rfl) [m69, h53, h90, nl, nt, bl, bt, wt, ft, w3, w5, w6, t2, g4, g5, Nat.add_comm 3 m, boxO, KS, getS, getO, gS, zipN, dropW, takeW, wds, stvs, refs, refsL, isPureEls, isPures, isPure, noExt, noExts, noExtEls, cellsL, ren, renL, boxO, row, newOs, renO, noExtO, two32, w64, -getElem?_pos, k_cnt, k_cnt0]
end
section
attribute [local congr] bnd_cg bndO_cg br_cg
set_option maxHeartbeats 8000000 in
theorem R14 (N d : Nat) (f : Fra) (o : okF f) : sem tab (N + 100) (d + 5) 62 [.agg (frC f)] [] = cond (plainF f) (some (.tup [.sl 0 0 0 (putF f).length, .b true], [row (byL (putF f)) 1 true])) (some (.tup [.sl 0 0 0 0, .b false], [row [] 1 true])) := by
  rw [sem_succ tab (N + 100) (d + 4) 62 m62 rfl]
  have h19 : sem tab (N + 100) (d + 4) 68 [.agg (frC f)] [] = _ := R44 N (d + 2) f o
  cases hp : plainF f
  · rw [hp] at h19
    obtain ⟨a1, a2, a3, a4, a5, a6, a7, a8, a9⟩ := f
    simp only [frC, cond_false, row] at h19 ⊢
    generalize uL a9 = q at *
    simp -implicitDefEqProofs (maxSteps := 1000000) (disch := first | omega | rfl) [m62, h19, boxO, KS, getS, getO, gS, zipN, dropW, takeW, wds, refs, refsL, noExt, ren, boxO, row, -getElem?_pos]
  · rw [hp] at h19
    have h20 := R45 N d f ((plainF_iff f).1 hp) o
    have hl := byL_len (frontF f)
    rw [frontF_len] at hl
    have hpl : (putF f).length = (frontF f).length + (cond (tagdF f.kind) f.tag []).length := by simp [putF]
    have hpb : byL (putF f) = byL (frontF f) ++ byL (cond (tagdF f.kind) f.tag []) := by simp [putF, byL]
    rw [frontF_len] at hpl
    have ha := aheadF_le f.kind
    have tu := take_uf f.tag o.tag
    have tu0 : (uL f.tag).take 32 = uL f.tag := by rw [← List.drop_zero (l := uL f.tag)]; exact tu
    have mu := map_uf f.tag
    have tl := byL_len f.tag
    have ul := uL_len f.tag
    rw [o.tag] at tl ul
    have hot := o.tag
    cases ht : tagdF f.kind
    · rw [ht] at h20 hpl hpb
      simp only [cond_false, cond_true, List.length_nil, Nat.add_zero, byL, List.map_nil, List.append_nil] at hpl hpb ⊢
      simp only [byL] at h20 hl
      rw [hpl, hpb]
      have t1 : List.take (aheadF f.kind) (List.map (fun n => [PV.i .u8 n]) (frontF f)) = List.map (fun n => [PV.i .u8 n]) (frontF f) := List.take_of_length_le (by omega)
      generalize List.map (fun n => [PV.i .u8 n]) (frontF f) = b at *
      generalize aheadF f.kind = n at *
      obtain ⟨a1, a2, a3, a4, a5, a6, a7, a8, a9⟩ := f
      simp only [frC, row] at h19 h20 ⊢
      generalize uL a9 = q at *
      simp -implicitDefEqProofs (maxSteps := 1000000) (disch := first | omega | rfl) [m62, h19, h20, hl, t1, boxO, KS, getS, getO, gS, zipN, dropW, takeW, wds, refs, refsL, noExt, noExts, ren, renL, boxO, row, newOs, renO, noExtO, -getElem?_pos, k_cnt, k_cnt0]
    · rw [ht] at h20 hpl hpb
      simp only [cond_true, hot] at hpl hpb ⊢
      rw [hpl, hpb]
      have t1 : List.take (aheadF f.kind) (byL (frontF f)) = byL (frontF f) := List.take_of_length_le (by omega)
      have t2 : List.take (aheadF f.kind + 32) (byL (frontF f) ++ byL f.tag) = byL (frontF f) ++ byL f.tag := List.take_of_length_le (by simp [hl, tl])
      have g1 : ¬ (aheadF f.kind + 32 ≤ aheadF f.kind) := by omega
      have g2 : aheadF f.kind + 32 ≤ 4294967296 := by omega
      have wt := allW_by f.tag
      have ft := flat_by f.tag
      generalize byL (frontF f) = b at *
      generalize byL f.tag = c at *
      generalize aheadF f.kind = n at *
      clear hot
      obtain ⟨a1, a2, a3, a4, a5, a6, a7, a8, a9⟩ := f
      simp only [frC, row] at *
      generalize uL a9 = q at *
      simp -implicitDefEqProofs (maxSteps := 1000000) (disch := first | omega | rfl) [m62, h19, h20, hl, tl, ul, tu0, mu, t1, t2, g1, g2, wt, ft, boxO, KVl, KS, getS, getO, gS, zipN, dropW, takeW, wds, refs, refsL, noExt, noExts, ren, renL, boxO, row, newOs, renO, noExtO, two32, -getElem?_pos, k_cnt, k_cnt0]
set_option maxHeartbeats 8000000 in
theorem R29t (N d : Nat) (b : List Int) (hb : b.length ≤ 100000) (hr : ∀ x ∈ b, 0 ≤ x ∧ x ≤ 255) : sem tab N (d + 1) 58 [.l false (byL b)] [] = some (.i .i64 (longF b), []) := by
  rw [sem_succ tab N d 58 m58 rfl]
  match b, hb, hr with
  | [], _, _ =>
    simp -implicitDefEqProofs (maxSteps := 1000000) (disch := first | omega | rfl) [m58, longF, byL, KS, getS, gS, zipN, refs, -getElem?_pos]
  | [x], _, _ =>
    simp -implicitDefEqProofs (maxSteps := 1000000) (disch := first | omega | rfl) [m58, longF, byL, KS, getS, gS, zipN, wds, refs, -getElem?_pos]
  | x :: y :: r, hb, hr =>
    have hx := hr x (by simp)
    have hy := hr y (by simp)
    have hl : longF (x :: y :: r) = if x * 256 + y > (r.length : Int) then -1 else 2 + (x * 256 + y) := by
      unfold longF
      rw [show (x :: y :: r).take 2 = [x, y] from rfl, val2, if_neg (by simp)]
      simp only [List.length_cons]
      congr 1
      · apply propext; omega
    rw [hl]
    clear hl
    rw [show byL (x :: y :: r) = [.i .u8 x] :: [.i .u8 y] :: byL r from rfl]
    have rl := byL_len r
    simp only [List.length_cons] at hb
    have c1 : ¬ ((r.length + 1 + 1 : Nat) : Int) < 2 := by omega
    have w1 : IntKind.i64.wrap ((((r.length + 1 + 1 : Nat) : Int)) - 2) = (r.length : Int) := by rw [IntKind.wrap_i64]; omega
    have w1' : IntKind.i64.wrap ((r.length : Int) + 1 + 1 - 2) = (r.length : Int) := by rw [IntKind.wrap_i64]; omega
    have w2 : IntKind.i64.wrap (256 * x) = 256 * x := by rw [IntKind.wrap_i64]; omega
    have w3 : IntKind.i64.wrap (256 * x + y) = 256 * x + y := by rw [IntKind.wrap_i64]; omega
    have w4 : IntKind.i64.wrap x = x := by rw [IntKind.wrap_i64]; omega
    have w5 : IntKind.i64.wrap y = y := by rw [IntKind.wrap_i64]; omega
    have w6 : IntKind.i64.wrap (2 + 256 * x) = 2 + 256 * x := by rw [IntKind.wrap_i64]; omega
    have w7 : IntKind.i64.wrap (2 + 256 * x + y) = 2 + 256 * x + y := by rw [IntKind.wrap_i64]; omega
    have c2 : ¬ ((r.length : Int) + 1 + 1 < 2) := by omega
    by_cases c : x * 256 + y > (r.length : Int)
    · rw [if_pos c]
      have c3 : (r.length : Int) < 256 * x + y := by omega
      generalize byL r = s at *
      generalize r.length = n at *
      simp -implicitDefEqProofs (maxSteps := 1000000) (disch := first | omega | rfl) [m58, rl, c2, w1', w2, w3, w4, w5, w6, w7, c3, KS, getS, gS, zipN, wds, refs, -getElem?_pos]
    · rw [if_neg c]
      have c3 : ¬ (r.length : Int) < 256 * x + y := by omega
      have e : (2 + (x * 256 + y) : Int) = 2 + 256 * x + y := by omega
      rw [e]
      generalize byL r = s at *
      generalize r.length = n at *
      simp -implicitDefEqProofs (maxSteps := 1000000) (disch := first | omega | rfl) [m58, rl, c2, w1', w2, w3, w4, w5, w6, w7, c3, KS, getS, gS, zipN, wds, refs, -getElem?_pos]
def slg41 (b : List (List PV)) (at' k : Nat) (acc : Int) (i : Nat) : SL := [(0, .l false b), (1, .i .i64 at'), (2, .i .i64 k), (8, .i .u64 acc), (9, .i .i64 i)]
set_option maxHeartbeats 4000000 in
theorem stg41 (Φ : Sem') (N : Nat) (g : SL → OB → Option R) (b : List (List PV)) (at' k i : Nat) (acc c : Int) (hx : b[i]? = some [.i .u8 c]) (hi : i < at' + k) (hn : at' + k < 1000000) (ha : 0 ≤ acc ∧ acc < 2 ^ 56) (hc : 0 ≤ c ∧ c ≤ 255) :
    m67b0 Φ N [] g (slg41 b at' k acc i) [] = g (slg41 b at' k (acc * 256 + c) (i + 1)) [] := by
  have w1 : IntKind.i64.wrap ((at' : Int) + k) = (at' : Int) + k := by rw [IntKind.wrap_i64]; omega
  have w2 := w64n (i := i) (by omega)
  have w3 : IntKind.u64.wrap (256 * acc) = acc * 256 := by rw [IntKind.wrap_u64]; omega
  have w4 : IntKind.u64.wrap c = c := by rw [IntKind.wrap_u64]; omega
  have w5 : IntKind.u64.wrap (acc * 256 + c) = acc * 256 + c := by rw [IntKind.wrap_u64]; omega
  have ci : (i : Int) < (at' : Int) + k := by omega
  simp -implicitDefEqProofs (maxSteps := 1000000) (disch := first | omega | rfl) [m67b0, slg41, hx, w1, w2, w3, w4, w5, ci, KS, getS, gS, wds, refs, keepO, keepS, keysO, refsS, refsOB, headC, -getElem?_pos, k_cnt0]
set_option maxHeartbeats 4000000 in
theorem eng41 (Φ : Sem') (N : Nat) (g : SL → OB → Option R) (b : List (List PV)) (at' k i : Nat) (acc : Int) (hi : i = at' + k) (hn : at' + k < 1000000) :
    m67b0 Φ N [] g (slg41 b at' k acc i) [] = some (.tup [.i .u64 acc, .i .i64 ((at' + k : Nat) : Int)], []) := by
  have w1 : IntKind.i64.wrap ((at' : Int) + k) = ((at' + k : Nat) : Int) := by rw [IntKind.wrap_i64]; omega
  subst hi
  generalize at' + k = z at *
  simp -implicitDefEqProofs (maxSteps := 1000000) (disch := first | omega | rfl) [m67b0, slg41, w1, KS, getS, gS, refs, keepO, keepS, keysO, refsS, refsOB, headC, w64, -getElem?_pos]
theorem lpg41 (Φ : Sem') (N M at' k : Nat) (bs : List Int) (hr : ∀ x ∈ bs, 0 ≤ x ∧ x ≤ 255) (hk : k ≤ 8) (hf : at' + k ≤ bs.length) (hb : bs.length < 1000000) : ∀ (n j : Nat), j + n = k →
    loopC (m67b0 Φ N []) (M + 1 + n) (slg41 (byL bs) at' k (val ((bs.drop at').take j)) (at' + j)) [] = some (.tup [.i .u64 (val ((bs.drop at').take k)), .i .i64 ((at' + k : Nat) : Int)], []) := by
  intro n
  induction n with
  | zero =>
    intro j h
    have : j = k := by omega
    subst this
    rw [Nat.add_zero, k_loop, eng41 _ _ _ _ _ _ _ _ rfl (by omega)]
  | succ n ih =>
    intro j h
    have hj : at' + j < bs.length := by omega
    have hs : (bs.drop at').take (j + 1) = (bs.drop at').take j ++ [bs[at' + j]] := by
      rw [List.take_succ, List.getElem?_drop, List.getElem?_eq_getElem hj]; rfl
    have hv := val_range ((bs.drop at').take j) (fun x hx => hr x (List.mem_of_mem_drop (List.mem_of_mem_take hx)))
    have hl : ((bs.drop at').take j).length ≤ 7 := by rw [List.length_take]; omega
    have hp : (256 : Int) ^ ((bs.drop at').take j).length ≤ 2 ^ 56 := (by decide : ∀ m ≤ 7, (256 : Int) ^ m ≤ 2 ^ 56) _ hl
    have hc := hr _ (List.getElem_mem hj)
    rw [← Nat.add_assoc, k_loop, stg41 Φ N _ (byL bs) at' k (at' + j) _ bs[at' + j] (by simp [byL, hj]) (by omega) (by omega) ⟨hv.1, by omega⟩ hc]
    have := ih (j + 1) (by omega)
    rw [hs, val_app] at this
    exact this
set_option maxHeartbeats 4000000 in
theorem R41 (N d : Nat) (bs : List Int) (at' k : Nat) (hk : 1 ≤ k ∧ k ≤ 8) (hb : bs.length < 1000000) (hr : ∀ x ∈ bs, 0 ≤ x ∧ x ≤ 255) (hf : at' + k ≤ bs.length) :
    sem tab (N + 100) (d + 1) 67 [.l false (byL bs), .i .i64 at', .i .i64 k] [] = some (.tup [.i .u64 (val ((bs.drop at').take k)), .i .i64 ((at' + k : Nat) : Int)], []) := by
  rw [sem_succ tab (N + 100) d 67 m67 rfl]
  have h := lpg41 (sem tab (N + 100) d) (N + 100) (N + 99 - k) at' k bs hr hk.2 hf hb k 0 (by omega)
  rw [show N + 99 - k + 1 + k = N + 100 by omega, List.take_zero, show val [] = 0 from rfl, Nat.add_zero, k_loop] at h
  have hbl := byL_len bs
  have c0 : ¬ ((k : Int) < 1) := by omega
  have c0' : ¬ ((k : Int) > 8) := by omega
  have c1 : ¬ ((at' : Int) < 0) := by omega
  have c2 : ¬ ((at' : Int) > (bs.length : Int)) := by omega
  have w1 : IntKind.i64.wrap ((bs.length : Int) - at') = (bs.length : Int) - at' := w64 (by omega) (by omega)
  have c3 : ¬ ((bs.length : Int) - at' < k) := by omega
  generalize val ((bs.drop at').take k) = V at *
  simp only [slg41, Nat.add_zero] at h
  generalize byL bs = b at *
  simp -implicitDefEqProofs (maxSteps := 1000000) (disch := first | omega | rfl) [m67, hbl, c0, c0', c1, c2, c3, w1, h, KS, getS, gS, zipN, refs, keepO, keepS, keysO, refsS, refsOB, headC, -getElem?_pos, k_cnt0]
def sl31a (b ss : List (List PV)) (s i : Nat) : SL := [(0, .l false b), (1, .l false ss), (6, .i .i64 s), (7, .i .i64 i)]
def sl31 (b ss : List (List PV)) (n at' i : Nat) : SL := [(0, .l false b), (1, .l false ss), (8, .sl 135 0 0 n), (9, .i .i64 at'), (10, .i .i64 i)]
set_option maxHeartbeats 4000000 in
theorem step31a (Φ : Sem') (N : Nat) (g : SL → OB → Option R) (b ss : List (List PV)) (s i k : Nat) (hx : ss[i]? = some [.i .i64 k]) (hi : i < ss.length) (hn : i < 40) (hk : 1 ≤ k ∧ k ≤ 8) (hs : s ≤ 1000) :
    m60b1 Φ N [] g (sl31a b ss s i) [] = g (sl31a b ss (s + k) (i + 1)) [] := by
  have w2 := w64n (i := i) (by omega)
  have w1 : IntKind.i64.wrap ((s : Int) + k) = ((s + k : Nat) : Int) := by rw [IntKind.wrap_i64]; omega
  have ci : (i : Int) < ss.length := by omega
  have c1 : ¬ ((k : Int) < 1) := by omega
  have c2 : ¬ ((k : Int) > 8) := by omega
  have c3 : ¬ ((i : Int) ≥ 40) := by omega
  generalize hz : ((s + k : Nat) : Int) = z at *
  simp -implicitDefEqProofs (maxSteps := 1000000) (disch := first | omega | rfl) [m60b1, sl31a, hx, w1, w2, ci, c1, c2, c3, hz, KS, getS, getO, gS, wds, refs, keepO, keepS, keysO, refsS, refsOB, headC, setS, row, -getElem?_pos, k_cnt, k_cnt0]
set_option maxHeartbeats 4000000 in
theorem end31n (Φ : Sem') (N : Nat) (g : SL → OB → Option R) (b ss : List (List PV)) (s : Nat) (h : s ≠ b.length) :
    m60b1 Φ N [] g (sl31a b ss s ss.length) [] = some (.tup [.sl 0 0 0 0, .b false], [row [] 1 true]) := by
  have c : ((s : Int) == b.length) = false := by rw [beq_eq_false_iff_ne]; omega
  have c' : ((s : Int) != b.length) = true := by rw [bne, c]; rfl
  simp -implicitDefEqProofs (maxSteps := 1000000) (disch := first | omega | rfl) [m60b1, sl31a, c', KS, getS, getO, gS, refs, keepO, keepS, keysO, refsS, refsOB, headC, setS, row, -getElem?_pos, k_cnt, k_cnt0]
set_option maxHeartbeats 4000000 in
theorem end31y (Φ : Sem') (N : Nat) (g : SL → OB → Option R) (b ss : List (List PV)) :
    m60b1 Φ (N + 1) [] g (sl31a b ss b.length ss.length) [] = m60b0 Φ (N + 1) [] (loopC (m60b0 Φ (N + 1) []) N) (sl31 b ss 0 0 0) [(135, row [] 1 true)] := by
  simp -implicitDefEqProofs (maxSteps := 1000000) (disch := first | omega | rfl) [m60b1, sl31a, sl31, row, KS, getS, getO, gS, refs, keepO, keepS, keysO, refsS, refsOB, headC, setS, row, -getElem?_pos, k_cnt, k_cnt0]
set_option maxHeartbeats 4000000 in
theorem step31 (N d : Nat) (g : SL → OB → Option R) (bs : List Int) (ss t : List (List PV)) (i at' k : Nat) (hx : ss[i]? = some [.i .i64 k]) (hi : i < ss.length) (hn : i ≤ 40) (hk : 1 ≤ k ∧ k ≤ 8) (hb : bs.length < 1000000) (hr : ∀ x ∈ bs, 0 ≤ x ∧ x ≤ 255) (hf : at' + k ≤ bs.length) (ht : t.length ≤ 100000) :
    m60b0 (sem tab (N + 100) (d + 1)) (N + 100) [] g (sl31 (byL bs) ss t.length at' i) [(135, row t 1 true)] = g (sl31 (byL bs) ss (t ++ [[PV.i .u64 (val ((bs.drop at').take k))]]).length (at' + k) (i + 1)) [(135, row (t ++ [[.i .u64 (val ((bs.drop at').take k))]]) 1 true)] := by
  have h99 := R41 N d bs at' k hk hb hr hf
  have w2 := w64n (i := i) (by omega)
  have ci : (i : Int) < ss.length := by omega
  generalize val ((bs.drop at').take k) = V at *
  generalize byL bs = b at *
  have t2 : List.take t.length t = t := List.take_length
  have e0 : t.length + 1 ≤ 4294967296 := by omega
  have e1 : ¬ (t.length + 1 ≤ t.length) := by omega
  have e3 : (t ++ [[PV.i .u64 V]]).length = t.length + 1 := by simp
  have e4 : List.take (t.length + 1) (t ++ [[PV.i .u64 V]]) = t ++ [[PV.i .u64 V]] := List.take_of_length_le (by omega)
  generalize hz : ((at' + k : Nat) : Int) = z at *
  simp -implicitDefEqProofs (maxSteps := 1000000) (disch := first | omega | rfl) [m60b0, sl31, hx, h99, w2, ci, t2, e0, e1, e3, hz, KS, getS, getO, gS, wds, stvs, refs, refsL, isPureEls, isPures, isPure, noExt, noExts, noExtEls, cellsL, ren, renL, keepO, keepS, keysO, refsS, refsOB, headC, setS, row, two32, -getElem?_pos, k_cnt, k_cnt0]
set_option maxHeartbeats 4000000 in
theorem end31 (N d : Nat) (g : SL → OB → Option R) (b : List (List PV)) (ss t : List (List PV)) (at' : Nat) :
    m60b0 (sem tab N d) N [] g (sl31 b ss t.length at' ss.length) [(135, row t 1 true)] = some (.tup [.sl 0 0 0 t.length, .b true], [row t 1 true]) := by
  have t2 : List.take t.length t = t := List.take_length
  simp -implicitDefEqProofs (maxSteps := 1000000) (disch := first | omega | rfl) [m60b0, sl31, t2, KS, getS, getO, gS, stvs, refs, isPureEls, noExtEls, cellsL, row, -getElem?_pos, k_cnt, k_cnt0]
theorem kL_len (ks : List Nat) : (kL ks).length = ks.length := by simp [kL]
theorem loop31a (Φ : Sem') (N : Nat) (b : List (List PV)) (ks : List Nat) (hks : ∀ k ∈ ks, 1 ≤ k ∧ k ≤ 8) (hn : ks.length ≤ 40) : ∀ (j i e s : Nat), i + j = ks.length → s ≤ 8 * i →
    loopC (m60b1 Φ N []) (e + 1 + j) (sl31a b (kL ks) s i) [] = m60b1 Φ N [] (loopC (m60b1 Φ N []) e) (sl31a b (kL ks) (s + sumL (ks.drop i)) ks.length) [] := by
  intro j
  induction j with
  | zero =>
    intro i e s h hs
    have : i = ks.length := by omega
    subst this
    rw [List.drop_length, Nat.add_zero, k_loop]
    rfl
  | succ j ih =>
    intro i e s h hs
    have hi : i < ks.length := by omega
    have q1 := List.drop_eq_getElem_cons hi
    have hk := hks _ (List.getElem_mem hi)
    rw [q1, ← Nat.add_assoc, k_loop, step31a Φ N _ b (kL ks) s i ks[i] (by simp [kL, hi]) (by rw [kL_len]; exact hi) (by omega) hk (by omega), ih (i + 1) e _ (by omega) (by omega)]
    simp only [sumL, Nat.add_assoc]
theorem loop31 (N d : Nat) (bs : List Int) (ks : List Nat) (hks : ∀ k ∈ ks, 1 ≤ k ∧ k ≤ 8) (hn : ks.length ≤ 40) (hb : bs.length < 1000000) (hr : ∀ x ∈ bs, 0 ≤ x ∧ x ≤ 255) : ∀ (j i e at' : Nat) (t : List (List PV)), i + j = ks.length → at' + sumL (ks.drop i) = bs.length → t.length = i →
    loopC (m60b0 (sem tab (N + 100) (d + 1)) (N + 100) []) (e + 1 + j) (sl31 (byL bs) (kL ks) t.length at' i) [(135, row t 1 true)] = some (.tup [.sl 0 0 0 (t ++ cuts bs at' (ks.drop i)).length, .b true], [row (t ++ cuts bs at' (ks.drop i)) 1 true]) := by
  intro j
  induction j with
  | zero =>
    intro i e at' t h hs ht
    have : i = ks.length := by omega
    subst this
    rw [List.drop_length]
    have := end31 (N + 100) (d + 1) (loopC (m60b0 (sem tab (N + 100) (d + 1)) (N + 100) []) e) (byL bs) (kL ks) t at'
    rw [kL_len] at this
    rw [Nat.add_zero, k_loop, this]
    simp [cuts]
  | succ j ih =>
    intro i e at' t h hs ht
    have hi : i < ks.length := by omega
    have q1 := List.drop_eq_getElem_cons hi
    rw [q1] at hs ⊢
    simp only [sumL] at hs
    have hk := hks _ (List.getElem_mem hi)
    rw [← Nat.add_assoc, k_loop, step31 N d _ bs (kL ks) t i at' ks[i] (by simp [kL, hi]) (by rw [kL_len]; exact hi) (by omega) hk hb hr (by omega) (by omega), ih (i + 1) e _ _ (by omega) (by omega) (by simp [ht])]
    simp only [cuts, List.append_assoc, List.cons_append, List.nil_append]
set_option maxHeartbeats 4000000 in
theorem st31 (Φ : Sem') (N : Nat) (b ss : List (List PV)) : m60 Φ (N + 1) [.l false b, .l false ss] [] = m60b1 Φ (N + 1) [] (loopC (m60b1 Φ (N + 1) []) N) (sl31a b ss 0 0) [] := by
  simp -implicitDefEqProofs (maxSteps := 1000000) (disch := first | omega | rfl) [m60, sl31a, KS, getS, gS, zipN, refs, keepO, keepS, keysO, refsS, refsOB, headC, -getElem?_pos, k_cnt0]
theorem R31 (N d : Nat) (bs : List Int) (ks : List Nat) (hks : ∀ k ∈ ks, 1 ≤ k ∧ k ≤ 8) (hn : ks.length ≤ 40) (hb : bs.length < 1000000) (hr : ∀ x ∈ bs, 0 ≤ x ∧ x ≤ 255) :
    sem tab (N + 100) (d + 2) 60 [.l false (byL bs), .l false (kL ks)] [] = if sumL ks = bs.length then some (.tup [.sl 0 0 0 (cuts bs 0 ks).length, .b true], [row (cuts bs 0 ks) 1 true]) else some (.tup [.sl 0 0 0 0, .b false], [row [] 1 true]) := by
  rw [sem_succ tab (N + 100) (d + 1) 60 m60 rfl, st31 _ (N + 99)]
  have ha := loop31a (sem tab (N + 100) (d + 1)) (N + 100) (byL bs) ks hks hn ks.length 0 (N + 99 - ks.length) 0 (by omega) (by omega)
  rw [show N + 99 - ks.length + 1 + ks.length = N + 99 + 1 by omega, k_loop, List.drop_zero, Nat.zero_add] at ha
  refine Eq.trans ha ?_
  by_cases h : sumL ks = bs.length
  · rw [if_pos h, h]
    have hy := end31y (sem tab (N + 100) (d + 1)) (N + 99) (loopC (m60b1 (sem tab (N + 100) (d + 1)) (N + 100) []) (N + 99 - ks.length)) (byL bs) (kL ks)
    rw [kL_len, byL_len] at hy
    refine Eq.trans hy ?_
    have hl := loop31 N d bs ks hks hn hb hr ks.length 0 (N + 99 - ks.length) 0 [] (by omega) (by simpa using h) rfl
    rw [show N + 99 - ks.length + 1 + ks.length = N + 99 + 1 by omega, k_loop, List.drop_zero, List.nil_append] at hl
    exact hl
  · rw [if_neg h]
    have hy := end31n (sem tab (N + 100) (d + 1)) (N + 100) (loopC (m60b1 (sem tab (N + 100) (d + 1)) (N + 100) []) (N + 99 - ks.length)) (byL bs) (kL ks) (sumL ks) (by rw [byL_len]; exact h)
    rw [kL_len] at hy
    exact hy
end
section
attribute [local congr] bnd_cg bndO_cg br_cg
def kF (k : Int) : Fra := ⟨k, 0, 0, 0, 0, 0, 0, 0, z32⟩
def sl15 (b : List (List PV)) (t : Bool) (n i : Nat) : SL := [(0, .l false b), (2, .p 80 0 0 0 none), (5, .sl 432 0 0 n), (6, .b t), (7, .sl 127 0 0 i), (8, .i .i64 i)]
def ob15 (l : List (List PV)) (s : List Nat) : OB := [(127, row (kL s) 1 true), (80, fbox zeF), (432, row l 2 true)]
set_option maxHeartbeats 8000000 in
theorem st15 (Φ : Sem') (N : Nat) (b l : List (List PV)) (k : Int) (t : Bool) (n : Nat) (hb : b.length ≤ 64) (h3 : 3 ≤ b.length) (hk : 0 ≤ k ∧ k ≤ 6) (hl : l.length = n) (hx : b[2]? = some [.i .u8 k])
    (H29 : Φ 58 [.l false b] [] = some (.i .i64 b.length, []))
    (H30 : Φ 59 [.agg (frC (kF k))] [] = some (.tup [.sl 0 0 0 n, .b t], [row l 2 true])) :
    m47 Φ (N + 1) [.l false b] [] = m47b0 Φ (N + 1) [] (loopC (m47b0 Φ (N + 1) []) N) (sl15 b t n 0) (ob15 l []) := by
  have c1 : ¬ ((b.length : Int) > 64) := by omega
  have c2 : ¬ ((b.length : Int) < 0) := by omega
  have c3 : ¬ ((b.length : Int) < 3) := by omega
  have c4 : ¬ (k ≥ 7) := by omega
  have w1 : IntKind.i64.wrap k = k := by rw [IntKind.wrap_i64]; omega
  have hu' := uz32.symm
  have zl2 : (uL z32).length = 32 := by rw [uL_len]; rfl
  simp only [frC, kF, zeF, fbox, box, row, sl15, ob15, kL, List.map_nil] at *
  generalize uL z32 = z at *
  generalize hbl : b.length = m at *
  simp -implicitDefEqProofs (maxSteps := 1000000) (disch := first | omega | rfl) [m47, hbl, H29, H30, hx, c1, c2, c3, c4, w1, hu', -List.reduceReplicate, boxO, KS, getS, getO, gS, zipN, dropW, takeW, wds, refs, refsL, refsEls, refsO, noExt, noExts, ren, renL, keepO, keepS, keysO, refsS, refsOB, headC, setS, boxO, row, putW, putB, newOs, renO, noExtO, -getElem?_pos, k_cnt, k_cnt0]
set_option maxHeartbeats 8000000 in
theorem step15 (Φ : Sem') (N : Nat) (g : SL → OB → Option R) (b l r : List (List PV)) (t : Bool) (x : Int) (n i k : Nat) (hx : l[i]? = some [.i .u64 x, .i .i64 k]) (hi : i < n) (hl : l.length = n) (hn : n ≤ 40) (hr : r.length = i) :
    m47b0 Φ N [] g (sl15 b t n i) [(127, row r 1 true), (80, fbox zeF), (432, row l 2 true)] = g (sl15 b t n (i + 1)) [(127, row (r ++ [[.i .i64 k]]) 1 true), (80, fbox zeF), (432, row l 2 true)] := by
  have w2 := w64n (i := i) (by omega)
  have ci : (i : Int) < n := by omega
  have t2 : List.take i r = r := List.take_of_length_le (by omega)
  have e0 : i + 1 ≤ 4294967296 := by omega
  have e1 : ¬ (i + 1 ≤ i) := by omega
  have e4 : List.take (i + 1) (r ++ [[PV.i .i64 k]]) = r ++ [[PV.i .i64 k]] := List.take_of_length_le (by simp [hr])
  have zl2 : (uL z32).length = 32 := by rw [uL_len]; rfl
  simp only [frC, zeF, fbox, box, row, sl15] at *
  generalize uL z32 = z at *
  simp -implicitDefEqProofs (maxSteps := 1000000) (disch := first | omega | rfl) [m47b0, hx, hr, hl, w2, ci, t2, e0, e1, boxO, KS, getS, getO, gS, dropW, wds, stvs, refs, refsL, refsEls, refsO, isPureEls, isPures, isPure, noExt, noExts, noExtEls, cellsL, keepO, keepS, keysO, refsS, refsOB, headC, setS, boxO, two32, -getElem?_pos, k_cnt, k_cnt0]
def ssF (k : Int) : List Nat := (numsF (kF k)).map (·.2)
theorem lp15 (Φ : Sem') (N : Nat) (b : List (List PV)) (t : Bool) (l : List (Int × Nat)) (hn : l.length ≤ 40) : ∀ (j i e : Nat), i + j = l.length →
    loopC (m47b0 Φ N []) (e + 1 + j) (sl15 b t l.length i) (ob15 (nuL l) ((l.map (·.2)).take i)) = m47b0 Φ N [] (loopC (m47b0 Φ N []) e) (sl15 b t l.length l.length) (ob15 (nuL l) (l.map (·.2))) := by
  intro j
  induction j with
  | zero =>
    intro i e h
    have : i = l.length := by omega
    subst this
    rw [Nat.add_zero, k_loop, List.take_of_length_le (by simp)]
  | succ j ih =>
    intro i e h
    have hi : i < l.length := by omega
    have hs := step15 Φ N (loopC (m47b0 Φ N []) (e + 1 + j)) b (nuL l) (kL ((l.map (·.2)).take i)) t l[i].1 l.length i l[i].2 (nuL_get l i hi) hi (nuL_len l) hn (by rw [kL_len, List.length_take, List.length_map]; omega)
    have he : kL ((l.map (·.2)).take i) ++ [[.i .i64 ((l[i].2 : Nat) : Int)]] = kL ((l.map (·.2)).take (i + 1)) := by
      rw [List.take_succ, List.getElem?_map, List.getElem?_eq_getElem hi]
      simp [kL]
    rw [he] at hs
    rw [← Nat.add_assoc, k_loop]
    refine Eq.trans hs ?_
    exact ih (i + 1) e (by omega)
def outC (b : Bool) (c : List (List PV)) : Option R := cond b (some (.tup [.sl 0 0 0 c.length, .b true], [row c 1 true])) (some (.tup [.sl 0 0 0 0, .b false], [row [] 1 true]))
set_option maxHeartbeats 8000000 in
theorem e15a (Φ : Sem') (N : Nat) (g : SL → OB → Option R) (t : Bool) (b p : List Int) (l : List (List PV)) (s : List Nat) (k : Int) (cut pl : Bool) (c : List (List PV)) (h : Fra) (hb : b.length ≤ 64) (h3 : 3 ≤ b.length) (ht : t = false ∨ b.length < 35) (hz : h.tag = z32) (hx : (byL b)[2]? = some [.i .u8 k]) (hk : 0 ≤ k ∧ k ≤ 6)
    (hp : p.length ≤ 100) (rp : ∀ x ∈ p, 0 ≤ x ∧ x ≤ 255) (rb : ∀ x ∈ b, 0 ≤ x ∧ x ≤ 255)
    (H31 : Φ 60 [.l false (byL (b.drop 3)), .l false (kL s)] [] = outC cut c)
    (H32 : cut = true → Φ 61 [.i .i64 k, .l false c] [] = some (.agg (frC h), []))
    (H14 : Φ 62 [.agg (frC h)] [] = outP pl p) :
    m47b0 Φ N [] g (sl15 (byL b) t s.length s.length) (ob15 l s) = cond (cut && (pl && decide (p = b))) (okR h) (errR 3) := by
  have hu' := uz32.symm
  have zl2 : (uL z32).length = 32 := by rw [uL_len]; rfl
  have sl := kL_len s
  have st : List.take s.length (kL s) = kL s := List.take_of_length_le (by omega)
  have wb := allW_by b
  have bl := byL_len b
  have hr := drop_by b 3
  have rl := byL_len (b.drop 3)
  rw [List.length_drop] at rl
  have ub := unB_by b
  have up := unB_by p
  have lp := byL_len p
  have tp : List.take p.length (byL p) = byL p := List.take_of_length_le (by omega)
  have de := dec_charsF p b rp rb
  have h3i : (3 : Int) ≤ (byL b).length := by omega
  have w1 : IntKind.i64.wrap k = k := by rw [IntKind.wrap_i64]; omega
  have tc : List.take c.length c = c := List.take_length
  have c32 : t = true → ¬ (((byL (b.drop 3)).length : Int) ≥ 32) := by
    intro h; rcases ht with e | e
    · rw [e] at h; cases h
    · omega
  rw [← de]
  clear de rp rb ht hp
  unfold outC at H31
  unfold outP at H14
  obtain ⟨a1, a2, a3, a4, a5, a6, a7, a8, a9⟩ := h
  simp only at hz
  subst hz
  simp only [frC, zeF, fbox, box, row, sl15, ob15, errR, okR] at *
  generalize chars p = sp at *
  generalize chars b = sb at *
  generalize byL (b.drop 3) = r at *
  generalize byL b = y at *
  generalize byL p = x at *
  generalize p.length = n at *
  generalize uL z32 = z at *
  generalize kL s = q at *
  generalize hcm : c.length = m at *
  cases cut
  · simp only [cond_false, Bool.false_and] at H31 ⊢
    clear H32 H14
    cases t
    · simp -implicitDefEqProofs (maxSteps := 1000000) (disch := first | omega | rfl) [m47b0, H31, sl, st, wb, hr, h3i, hu', -List.reduceReplicate, boxO, KVl, KS, getS, getO, gS, dropW, takeW, wds, stvs, sea, seaL, refs, refsL, isPureEls, noExt, noExts, noExtEls, cellsL, ren, renL, boxO, putW, newOs, renO, noExtO, w64, -getElem?_pos]
    · have c32 := c32 rfl
      simp -implicitDefEqProofs (maxSteps := 1000000) (disch := first | omega | rfl) [m47b0, H31, sl, st, wb, hr, h3i, c32, hu', -List.reduceReplicate, boxO, KVl, KS, getS, getO, gS, dropW, takeW, wds, stvs, sea, seaL, refs, refsL, isPureEls, noExt, noExts, noExtEls, cellsL, ren, renL, boxO, putW, newOs, renO, noExtO, w64, -getElem?_pos]
  · simp only [cond_true, Bool.true_and] at H31 ⊢
    have H32 := H32 rfl
    cases pl
    · simp only [cond_false, Bool.false_and] at H14 ⊢
      cases t
      · simp -implicitDefEqProofs (maxSteps := 1000000) (disch := first | omega | rfl) [m47b0, H31, H32, H14, hx, w1, tc, hcm, sl, st, wb, hr, h3i, hu', -List.reduceReplicate, boxO, KVl, KS, getS, getO, gS, dropW, takeW, wds, stvs, sea, seaL, refs, refsL, isPureEls, noExt, noExts, noExtEls, cellsL, ren, renL, boxO, putW, newOs, renO, noExtO, w64, -getElem?_pos]
      · have c32 := c32 rfl
        simp -implicitDefEqProofs (maxSteps := 1000000) (disch := first | omega | rfl) [m47b0, H31, H32, H14, hx, w1, tc, hcm, sl, st, wb, hr, h3i, c32, hu', -List.reduceReplicate, boxO, KVl, KS, getS, getO, gS, dropW, takeW, wds, stvs, sea, seaL, refs, refsL, isPureEls, noExt, noExts, noExtEls, cellsL, ren, renL, boxO, putW, newOs, renO, noExtO, w64, -getElem?_pos]
    · simp only [cond_true, Bool.true_and] at H14 ⊢
      cases e : decide (sp = sb) <;> simp only [cond_true, cond_false]
      · cases t
        · simp -implicitDefEqProofs (maxSteps := 1000000) (disch := first | omega | rfl) [m47b0, H31, H32, H14, e, ub, up, lp, tp, hx, w1, tc, hcm, sl, st, wb, hr, h3i, hu', -List.reduceReplicate, boxO, KVl, KS, getS, getO, gS, dropW, takeW, wds, stvs, sea, seaL, refs, refsL, isPureEls, noExt, noExts, noExtEls, cellsL, ren, renL, boxO, putW, newOs, renO, noExtO, w64, -getElem?_pos]
        · have c32 := c32 rfl
          simp -implicitDefEqProofs (maxSteps := 1000000) (disch := first | omega | rfl) [m47b0, H31, H32, H14, e, ub, up, lp, tp, hx, w1, tc, hcm, sl, st, wb, hr, h3i, c32, hu', -List.reduceReplicate, boxO, KVl, KS, getS, getO, gS, dropW, takeW, wds, stvs, sea, seaL, refs, refsL, isPureEls, noExt, noExts, noExtEls, cellsL, ren, renL, boxO, putW, newOs, renO, noExtO, w64, -getElem?_pos]
      · cases t
        · simp -implicitDefEqProofs (maxSteps := 1000000) (disch := first | omega | rfl) [m47b0, H31, H32, H14, e, ub, up, lp, tp, hx, w1, tc, hcm, sl, st, wb, hr, h3i, hu', -List.reduceReplicate, boxO, KVl, KS, getS, getO, gS, dropW, takeW, wds, stvs, sea, seaL, refs, refsL, isPureEls, noExt, noExts, noExtEls, cellsL, ren, renL, boxO, putW, newOs, renO, noExtO, w64, -getElem?_pos]
        · have c32 := c32 rfl
          simp -implicitDefEqProofs (maxSteps := 1000000) (disch := first | omega | rfl) [m47b0, H31, H32, H14, e, ub, up, lp, tp, hx, w1, tc, hcm, sl, st, wb, hr, h3i, c32, hu', -List.reduceReplicate, boxO, KVl, KS, getS, getO, gS, dropW, takeW, wds, stvs, sea, seaL, refs, refsL, isPureEls, noExt, noExts, noExtEls, cellsL, ren, renL, boxO, putW, newOs, renO, noExtO, w64, -getElem?_pos]
end
section
attribute [local congr] bnd_cg bndO_cg br_cg
theorem cpy_id (ob : OB) (ys : List Int) (hy : ys.length = 32) (ho : getO ob 144 = some { els := [[.blob 32 (uL z32)]], w := 32, pu := false, g := true, cap := none, ver := 0, fro := false }) : cpy ob 1 (.bs 144 0 0 32) (.l false (byL ys)) = some (.i .i64 32, [(144, { els := [[.blob 32 (uL ys)]], w := 32, pu := false, g := true, cap := none, ver := 0, fro := false })]) := by
  have hl := byL_len ys
  have hz : (uL z32).length = 32 := by rw [uL_len]; rfl
  have hs := scal_by ys
  have hf := flat_take ys 32
  rw [List.take_of_length_le (l := ys) (by omega)] at hf
  have ul := uL_len ys
  rw [hy] at hl ul
  have hd : List.drop 32 (uL z32) = [] := List.drop_of_length_le (by omega)
  generalize uL ys = t at *
  generalize uL z32 = z at *
  generalize byL ys = b at *
  simp [cpy, cont, contL, cpC, cpX, cpyB, cpyE, cpyD, ho, dropW, takeW, hs, hf, hz, hl, hd]
theorem slc_to (ob : OB) (b : List (List PV)) (i : Nat) (hw : allW 1 b = true) (hi : i ≤ b.length) : slc ob (.slice 1) (.l false b) none (some (.i .i64 i)) none = some (.l false (b.take i), []) := by
  simp [slc, hw, slL, optI, natI, hi]
set_option maxHeartbeats 8000000 in
theorem e15b (Φ : Sem') (N : Nat) (g : SL → OB → Option R) (b p : List Int) (l : List (List PV)) (s : List Nat) (k : Int) (cut pl : Bool) (c : List (List PV)) (h : Fra) (hb : b.length ≤ 64) (h35 : 35 ≤ b.length) (hz : h.tag = z32) (hx : (byL b)[2]? = some [.i .u8 k]) (hk : 0 ≤ k ∧ k ≤ 6)
    (hp : p.length ≤ 100) (rp : ∀ x ∈ p, 0 ≤ x ∧ x ≤ 255) (rb : ∀ x ∈ b, 0 ≤ x ∧ x ≤ 255)
    (H31 : Φ 60 [.l false (byL ((b.drop 3).take (b.length - 35))), .l false (kL s)] [] = outC cut c)
    (H32 : cut = true → Φ 61 [.i .i64 k, .l false c] [] = some (.agg (frC h), []))
    (H14 : Φ 62 [.agg (frC { h with tag := b.drop (b.length - 32) })] [] = outP pl p) :
    m47b0 Φ N [] g (sl15 (byL b) true s.length s.length) (ob15 l s) = cond (cut && (pl && decide (p = b))) (okR { h with tag := b.drop (b.length - 32) }) (errR 3) := by
  have hu' := uz32.symm
  have zl2 : (uL z32).length = 32 := by rw [uL_len]; rfl
  have sl := kL_len s
  have st : List.take s.length (kL s) = kL s := List.take_of_length_le (by omega)
  have wb := allW_by b
  have bl := byL_len b
  have hr := drop_by b 3
  have wr := allW_by (b.drop 3)
  have rl := byL_len (b.drop 3)
  rw [List.length_drop] at rl
  have ub := unB_by b
  have up := unB_by p
  have lp := byL_len p
  have tp : List.take p.length (byL p) = byL p := List.take_of_length_le (by omega)
  have de := dec_charsF p b rp rb
  have h3i : (3 : Int) ≤ (byL b).length := by omega
  have w1 : IntKind.i64.wrap k = k := by rw [IntKind.wrap_i64]; omega
  have tc : List.take c.length c = c := List.take_length
  have c32 : ((byL (b.drop 3)).length : Int) ≥ 32 := by omega
  have wi : IntKind.i64.wrap (((byL (b.drop 3)).length : Int) - 32) = ((b.length - 35 : Nat) : Int) := by rw [IntKind.wrap_i64]; omega
  have d1 : (byL (b.drop 3)).drop (b.length - 35) = byL (b.drop (b.length - 32)) := by
    rw [drop_by, List.drop_drop]; congr 2; omega
  have d2 : (byL (b.drop 3)).take (b.length - 35) = byL ((b.drop 3).take (b.length - 35)) := by simp [byL, List.map_take]
  have s1 : ∀ ob, slc ob (.slice 1) (.l false (byL (b.drop 3))) (some (.i .i64 ((b.length - 35 : Nat) : Int))) none none = some (.l false (byL (b.drop (b.length - 32))), []) := fun ob => by rw [slc_at ob _ _ wr (by omega), d1]
  have s2 : ∀ ob, slc ob (.slice 1) (.l false (byL (b.drop 3))) none (some (.i .i64 ((b.length - 35 : Nat) : Int))) none = some (.l false (byL ((b.drop 3).take (b.length - 35))), []) := fun ob => by rw [slc_to ob _ _ wr (by omega), d2]
  have hT : (b.drop (b.length - 32)).length = 32 := by rw [List.length_drop]; omega
  have cp : ∀ S : OB, cpy ((144, { els := [[.blob 32 (uL z32)]], w := 32, pu := false, g := true, cap := none, ver := 0, fro := false }) :: S) 1 (.bs 144 0 0 32) (.l false (byL (b.drop (b.length - 32)))) = some (.i .i64 32, [(144, { els := [[.blob 32 (uL (b.drop (b.length - 32)))]], w := 32, pu := false, g := true, cap := none, ver := 0, fro := false })]) := fun S => cpy_id _ _ hT rfl
  have tl : (uL (b.drop (b.length - 32))).length = 32 := by rw [uL_len, hT]
  rw [← de]
  clear de rp rb hp d1 d2 hT wr
  unfold outC at H31
  unfold outP at H14
  obtain ⟨a1, a2, a3, a4, a5, a6, a7, a8, a9⟩ := h
  simp only at hz
  subst hz
  simp only [frC, zeF, fbox, box, row, sl15, ob15, errR, okR] at *
  generalize chars p = sp at *
  generalize chars b = sb at *
  generalize byL ((b.drop 3).take (b.length - 35)) = r2 at *
  generalize byL (b.drop (b.length - 32)) = v at *
  generalize uL (b.drop (b.length - 32)) = T at *
  generalize byL (b.drop 3) = r at *
  generalize ((b.length - 35 : Nat) : Int) = i at *
  generalize byL b = y at *
  generalize byL p = x at *
  generalize p.length = n at *
  generalize uL z32 = z at *
  generalize kL s = q at *
  generalize hcm : c.length = m at *
  cases cut
  · simp only [cond_false, Bool.false_and] at H31 ⊢
    clear H32 H14
    simp -implicitDefEqProofs (maxSteps := 1000000) (disch := first | omega | rfl) [m47b0, H31, sl, st, wb, hr, h3i, c32, wi, s1, s2, cp, hu', -List.reduceReplicate, boxO, KVl, KS, getS, getO, gS, dropW, takeW, wds, stvs, sea, seaL, refs, refsL, isPureEls, noExt, noExts, noExtEls, cellsL, ren, renL, boxO, putW, newOs, renO, noExtO, -getElem?_pos]
  · simp only [cond_true, Bool.true_and] at H31 ⊢
    have H32 := H32 rfl
    cases pl
    · simp only [cond_false, Bool.false_and] at H14 ⊢
      simp -implicitDefEqProofs (maxSteps := 1000000) (disch := first | omega | rfl) [m47b0, H31, H32, H14, hx, w1, tc, hcm, sl, st, wb, hr, h3i, c32, wi, s1, s2, cp, hu', -List.reduceReplicate, boxO, KVl, KS, getS, getO, gS, dropW, takeW, wds, stvs, sea, seaL, refs, refsL, isPureEls, noExt, noExts, noExtEls, cellsL, ren, renL, boxO, putW, newOs, renO, noExtO, -getElem?_pos]
    · simp only [cond_true, Bool.true_and] at H14 ⊢
      cases e : decide (sp = sb) <;> simp only [cond_true, cond_false] <;>
      simp -implicitDefEqProofs (maxSteps := 1000000) (disch := first | omega | rfl) [m47b0, H31, H32, H14, e, ub, up, lp, tp, hx, w1, tc, hcm, sl, st, wb, hr, h3i, c32, wi, s1, s2, cp, hu', -List.reduceReplicate, boxO, KVl, KS, getS, getO, gS, dropW, takeW, wds, stvs, sea, seaL, refs, refsL, isPureEls, noExt, noExts, noExtEls, cellsL, ren, renL, boxO, putW, newOs, renO, noExtO, -getElem?_pos]
end
section
attribute [local congr] bnd_cg bndO_cg br_cg
theorem R54g (N d : Nat) (k : Int) (b r : List Int) (hk : inB k 0 6 = true) (hr : ∀ x ∈ b, 0 ≤ x ∧ x ≤ 255) (P : ∀ i j, i + j ≤ sumL (ssF k) → (r.drop i).take j = (b.drop (3 + i)).take j) : sem tab N (d + 1) 61 [.i .i64 k, .l false (cuts r 0 (ssF k))] [] = some (.agg (frC { getF k b with tag := z32 }), []) := by
  have wv : ∀ i j, j ≤ 4 → IntKind.i64.wrap (vAt b i j) = vAt b i j := fun i j h => by
    have := vAt_range b hr i j h
    rw [IntKind.wrap_i64]; omega
  rcases kinds hk with e | e | e | e | e | e | e <;> subst e
  · have e : cuts r 0 (ssF 0) = u64L [vAt b 3 1, vAt b 4 8] := by
      have h : cuts r 0 (ssF 0) = u64L [val ((r.drop 0).take 1), val ((r.drop 1).take 8)] := rfl
      rw [h, P 0 1 (by decide), P 1 8 (by decide)]; rfl
    rw [e, R54_0, wv 3 1 (by decide)]; rfl
  · have e : cuts r 0 (ssF 1) = u64L [vAt b 3 8, vAt b 11 4] := by
      have h : cuts r 0 (ssF 1) = u64L [val ((r.drop 0).take 8), val ((r.drop 8).take 4)] := rfl
      rw [h, P 0 8 (by decide), P 8 4 (by decide)]; rfl
    rw [e, R54_1, wv 11 4 (by decide)]; rfl
  · have e : cuts r 0 (ssF 2) = u64L [vAt b 3 8] := by
      have h : cuts r 0 (ssF 2) = u64L [val ((r.drop 0).take 8)] := rfl
      rw [h, P 0 8 (by decide)]; rfl
    rw [e, R54_2]; rfl
  · have e : cuts r 0 (ssF 3) = u64L [vAt b 3 8] := by
      have h : cuts r 0 (ssF 3) = u64L [val ((r.drop 0).take 8)] := rfl
      rw [h, P 0 8 (by decide)]; rfl
    rw [e, R54_3]; rfl
  · have e : cuts r 0 (ssF 4) = u64L [vAt b 3 8, vAt b 11 8, vAt b 19 1, vAt b 20 2] := by
      have h : cuts r 0 (ssF 4) = u64L [val ((r.drop 0).take 8), val ((r.drop 8).take 8), val ((r.drop 16).take 1), val ((r.drop 17).take 2)] := rfl
      rw [h, P 0 8 (by decide), P 8 8 (by decide), P 16 1 (by decide), P 17 2 (by decide)]; rfl
    rw [e, R54_4, wv 19 1 (by decide), wv 20 2 (by decide)]; rfl
  · have e : cuts r 0 (ssF 5) = u64L [vAt b 3 8, vAt b 11 8, vAt b 19 1, vAt b 20 2] := by
      have h : cuts r 0 (ssF 5) = u64L [val ((r.drop 0).take 8), val ((r.drop 8).take 8), val ((r.drop 16).take 1), val ((r.drop 17).take 2)] := rfl
      rw [h, P 0 8 (by decide), P 8 8 (by decide), P 16 1 (by decide), P 17 2 (by decide)]; rfl
    rw [e, R54_5, wv 19 1 (by decide), wv 20 2 (by decide)]; rfl
  · have e : cuts r 0 (ssF 6) = u64L [vAt b 3 1] := by
      have h : cuts r 0 (ssF 6) = u64L [val ((r.drop 0).take 1)] := rfl
      rw [h, P 0 1 (by decide)]; rfl
    rw [e, R54_6, wv 3 1 (by decide)]; rfl
theorem sum_ss (k : Int) (hk : inB k 0 6 = true) : sumL (ssF k) + 3 = aheadF k := by
  rcases kinds hk with e | e | e | e | e | e | e <;> subst e <;> rfl
theorem getF_tag (k : Int) (b : List Int) (hk : inB k 0 6 = true) : (getF k b).tag = cond (tagdF k) (tgAt b (aheadF k)) z32 := by
  rcases kinds hk with e | e | e | e | e | e | e <;> subst e <;> rfl
theorem ss_ok (k : Int) (hk : inB k 0 6 = true) : (∀ x ∈ ssF k, 1 ≤ x ∧ x ≤ 8) ∧ (ssF k).length ≤ 40 := by
  rcases kinds hk with e | e | e | e | e | e | e <;> subst e <;> decide
theorem gd_len {k : Int} {b : List Int} (hk : inB k 0 6 = true) (hr : ∀ x ∈ b, 0 ≤ x ∧ x ≤ 255) (h : b.length ≠ szF k + 2) : gdK k b = false := by
  have hl := put_get_len k b hk hr
  unfold gdK
  by_cases e : putF (getF k b) = b
  · rw [e] at hl; exact absurd hl h
  · rw [decide_eq_false e, Bool.and_false]
theorem fr_tag (f : Fra) (t : List Int) (h : f.tag = t) : ({ f with tag := t } : Fra) = f := by subst h; rfl
theorem bd_kF (k : Int) (hk : inB k 0 6 = true) : BdF (kF k) := ⟨hk, by simp [kF], by simp [kF], by simp [kF], by simp [kF]⟩
theorem okF_tg {f : Fra} (o : okF f) (t : List Int) (h : t.length = 32) (r : ∀ x ∈ t, 0 ≤ x ∧ x ≤ 255) : okF { f with tag := t } := ⟨o.sess, o.cn, o.count, h, r⟩
set_option maxHeartbeats 2000000 in
theorem R15k (N d : Nat) (k : Int) (b : List Int) (hb : b.length ≤ 64) (h3 : 3 ≤ b.length) (hr : ∀ x ∈ b, 0 ≤ x ∧ x ≤ 255) (hL : longF b = b.length) (hx : (byL b)[2]? = some [.i .u8 k]) (hk : inB k 0 6 = true) :
    sem tab (N + 100) (d + 6) 47 [.l false (byL b)] [] = cond (gdK k b) (okR (getF k b)) (errR 3) := by
  rw [sem_succ tab (N + 100) (d + 5) 47 m47 rfl]
  have bl := byL_len b
  have hk' : 0 ≤ k ∧ k ≤ 6 := by
    rcases kinds hk with e | e | e | e | e | e | e <;> subst e <;> decide
  have H29 : sem tab (N + 100) (d + 5) 58 [.l false (byL b)] [] = some (.i .i64 (byL b).length, []) := by
    have := R29t (N + 100) (d + 4) b (by omega) hr
    rw [hL, ← bl] at this
    exact this
  have H30 : sem tab (N + 100) (d + 5) 59 [.agg (frC (kF k))] [] = some (.tup [.sl 0 0 0 (numsF (kF k)).length, .b (tagdF k)], [row (nuL (numsF (kF k))) 2 true]) := R53 (N + 100) (d + 4) (kF k) (bd_kF k hk)
  have hn := numsF_len (kF k)
  have h1 := st15 (sem tab (N + 100) (d + 5)) (N + 99) (byL b) (nuL (numsF (kF k))) k (tagdF k) (numsF (kF k)).length (by omega) (by omega) hk' (nuL_len _) hx H29 H30
  have h2 := lp15 (sem tab (N + 100) (d + 5)) (N + 100) (byL b) (tagdF k) (numsF (kF k)) (by omega) (numsF (kF k)).length 0 (N + 99 - (numsF (kF k)).length) (by omega)
  rw [show N + 99 - (numsF (kF k)).length + 1 + (numsF (kF k)).length = N + 99 + 1 by omega, k_loop, List.take_zero] at h2
  refine Eq.trans h1 (Eq.trans h2 ?_)
  have hs : (numsF (kF k)).length = (ssF k).length := by unfold ssF; rw [List.length_map]
  rw [hs]
  show m47b0 (sem tab (N + 100) (d + 5)) (N + 100) [] _ (sl15 (byL b) (tagdF k) (ssF k).length (ssF k).length) (ob15 (nuL (numsF (kF k))) (ssF k)) = _
  generalize loopC _ _ = g
  have oG := okF_get k b hr
  have ss := sum_ss k hk
  have az := ahead_sz k hk
  have gt := getF_tag k b hk
  obtain ⟨so1, so2⟩ := ss_ok k hk
  have kG := kind_get k b hk
  by_cases hc : tagdF k = false ∨ b.length < 35
  · have oH : okF { getF k b with tag := z32 } := okF_tg oG z32 z32_len z32_range
    have H31 : sem tab (N + 100) (d + 5) 60 [.l false (byL (b.drop 3)), .l false (kL (ssF k))] [] = outC (decide (sumL (ssF k) = (b.drop 3).length)) (cuts (b.drop 3) 0 (ssF k)) := by
      have := R31 N (d + 3) (b.drop 3) (ssF k) so1 so2 (by rw [List.length_drop]; omega) (fun x hx => hr x (List.mem_of_mem_drop hx))
      refine Eq.trans this ?_
      unfold outC
      by_cases e : sumL (ssF k) = (b.drop 3).length
      · rw [if_pos e, decide_eq_true e]; rfl
      · rw [if_neg e, decide_eq_false e]; rfl
    have H32 := R54g (N + 100) (d + 4) k b (b.drop 3) hk hr (fun i j _ => by rw [List.drop_drop])
    have H14 : sem tab (N + 100) (d + 5) 62 [.agg (frC { getF k b with tag := z32 })] [] = outP (plainF { getF k b with tag := z32 }) (putF { getF k b with tag := z32 }) := R14 N d _ oH
    have pl : (putF { getF k b with tag := z32 }).length = szF k + 2 := by rw [putF_len _ (by show inB (getF k b).kind 0 6 = true; rw [kG]; exact hk) oH.tag]; show szF (getF k b).kind + 2 = _; rw [kG]
    have sz := szF_le k
    refine Eq.trans (e15a _ _ g (tagdF k) b _ _ (ssF k) k _ _ _ _ hb h3 hc rfl hx hk' (by rw [pl]; omega) (putF_range _ oH.tagr) hr H31 (fun _ => H32) H14) ?_
    by_cases e : sumL (ssF k) = (b.drop 3).length
    · rw [decide_eq_true e, Bool.true_and]
      have eG : ({ getF k b with tag := z32 } : Fra) = getF k b := by
        apply fr_tag
        rw [gt]
        cases ht : tagdF k
        · rfl
        · rw [cond_true]
          rw [List.length_drop] at e
          have : b.length = aheadF k := by omega
          unfold tgAt
          rw [List.drop_of_length_le (by omega), this]
          simp
      rw [eG]
      rfl
    · have : gdK k b = false := by
        apply gd_len hk hr
        intro h
        rw [List.length_drop] at e
        cases ht : tagdF k
        · rw [ht, cond_false] at az; omega
        · rw [ht, cond_true] at az
          rcases hc with hc | hc
          · rw [ht] at hc; cases hc
          · have := aheadF_le k; omega
      rw [decide_eq_false e, this]; rfl
  · have ht : tagdF k = true := by
      cases h : tagdF k
      · exact absurd (.inl h) hc
      · rfl
    have h35 : 35 ≤ b.length := by
      rcases Nat.lt_or_ge b.length 35 with h | h
      · exact absurd (.inr h) hc
      · exact h
    rw [ht] at az gt ⊢
    rw [cond_true] at az gt
    have tT : (b.drop (b.length - 32)).length = 32 := by rw [List.length_drop]; omega
    have oH : okF { getF k b with tag := b.drop (b.length - 32) } := okF_tg oG _ tT (fun x hx => hr x (List.mem_of_mem_drop hx))
    have H31 : sem tab (N + 100) (d + 5) 60 [.l false (byL ((b.drop 3).take (b.length - 35))), .l false (kL (ssF k))] [] = outC (decide (sumL (ssF k) = b.length - 35)) (cuts ((b.drop 3).take (b.length - 35)) 0 (ssF k)) := by
      have := R31 N (d + 3) ((b.drop 3).take (b.length - 35)) (ssF k) so1 so2 (by rw [List.length_take, List.length_drop]; omega) (fun x hx => hr x (List.mem_of_mem_drop (List.mem_of_mem_take hx)))
      refine Eq.trans this ?_
      have ln : ((b.drop 3).take (b.length - 35)).length = b.length - 35 := by rw [List.length_take, List.length_drop]; omega
      rw [ln]
      unfold outC
      by_cases e : sumL (ssF k) = b.length - 35
      · rw [if_pos e, decide_eq_true e]; rfl
      · rw [if_neg e, decide_eq_false e]; rfl
    have H14 : sem tab (N + 100) (d + 5) 62 [.agg (frC { getF k b with tag := b.drop (b.length - 32) })] [] = outP (plainF { getF k b with tag := b.drop (b.length - 32) }) (putF { getF k b with tag := b.drop (b.length - 32) }) := R14 N d _ oH
    have pl : (putF { getF k b with tag := b.drop (b.length - 32) }).length = szF k + 2 := by rw [putF_len _ (by show inB (getF k b).kind 0 6 = true; rw [kG]; exact hk) oH.tag]; show szF (getF k b).kind + 2 = _; rw [kG]
    have sz := szF_le k
    refine Eq.trans (e15b _ _ g b _ _ (ssF k) k _ _ _ { getF k b with tag := z32 } hb h35 rfl hx hk' (by rw [pl]; omega) (putF_range _ oH.tagr) hr H31 (fun he => ?_) H14) ?_
    · have e := of_decide_eq_true he
      refine R54g (N + 100) (d + 4) k b _ hk hr (fun i j hij => ?_)
      rw [List.drop_take, List.take_take, List.drop_drop, Nat.min_eq_left (by omega)]
    by_cases e : sumL (ssF k) = b.length - 35
    · rw [decide_eq_true e, Bool.true_and]
      have eG : ({ getF k b with tag := b.drop (b.length - 32) } : Fra) = getF k b := by
        apply fr_tag
        rw [gt]
        have : aheadF k = b.length - 32 := by omega
        unfold tgAt
        rw [this, List.take_of_length_le (by omega)]
        have : min (b.length - (b.length - 32)) 32 = 32 := by omega
        rw [this, List.drop_of_length_le (l := z32) (by rw [z32_len]; omega), List.append_nil]
      show cond (plainF { getF k b with tag := b.drop (b.length - 32) } && decide (putF { getF k b with tag := b.drop (b.length - 32) } = b)) (okR { getF k b with tag := b.drop (b.length - 32) }) (errR 3) = _
      rw [eG]
      rfl
    · have : gdK k b = false := by
        apply gd_len hk hr
        intro h
        omega
      rw [decide_eq_false e, this]; rfl
end
section
attribute [local congr] bnd_cg bndO_cg br_cg
set_option maxHeartbeats 4000000 in
theorem R15 (M d : Nat) (bs : List Int) (hb : bs.length ≤ 10000) (hr : ∀ x ∈ bs, 0 ≤ x ∧ x ≤ 255) : sem tab (M + 1000) (d + 6) 47 [.l false (byL bs)] [] = outRd bs := by
  rw [sem_succ tab (M + 1000) (d + 5) 47 m47 rfl]
  have hl := byL_len bs
  have bad : (longF bs = bs.length → bs.length ≤ 54 → 4 ≤ bs.length → False) → goodF bs = false := fun h => by
    rw [← Bool.not_eq_true]; intro hg
    obtain ⟨g1, g2, g3⟩ := good_len hr hg
    exact h g1 g2 g3
  unfold outRd errF
  have hu' := uz32.symm
  by_cases c1 : (bs.length : Int) > 64
  · rw [bad (by omega), cond_false, if_pos (by omega)]
    unfold errR
    rw [← hl] at c1
    simp only [frC, zeF]
    generalize uL z32 = z at *
    generalize byL bs = b at *
    simp -implicitDefEqProofs (maxSteps := 1000000) (disch := first | omega | rfl) [m47, c1, hu', boxO, -List.reduceReplicate, KS, getS, getO, gS, zipN, dropW, takeW, wds, sea, seaL, refs, refsL, boxO, putW, putB, putB1, -getElem?_pos]
  have h21 : sem tab (M + 1000) (d + 5) 58 [.l false (byL bs)] [] = some (.i .i64 (longF bs), []) := R29t (M + 1000) (d + 4) bs (by omega) hr
  rw [if_neg (show ¬ 64 < bs.length by omega)]
  by_cases c2 : longF bs = -1
  · rw [bad (by omega), cond_false, if_pos c2]
    unfold errR
    rw [c2] at h21
    rw [← hl] at c1
    simp only [frC, zeF]
    generalize uL z32 = z at *
    generalize byL bs = b at *
    simp -implicitDefEqProofs (maxSteps := 1000000) (disch := first | omega | rfl) [m47, h21, c1, hu', boxO, -List.reduceReplicate, KS, getS, getO, gS, zipN, dropW, takeW, wds, sea, seaL, refs, refsL, noExt, ren, boxO, putW, putB, putB1, -getElem?_pos]
  rw [if_neg c2]
  by_cases c3 : longF bs = bs.length ∧ longF bs ≠ 2
  · obtain ⟨c3, c4⟩ := c3
    have h3 : 3 ≤ bs.length := by
      rcases long_cases bs hr with h | h <;> omega
    have h2 : 2 < bs.length := by omega
    have hk := hr bs[2] (List.getElem_mem h2)
    have hx : (byL bs)[2]? = some [.i .u8 bs[2]] := by simp [byL, h2]
    have hg : bs.getD 2 0 = bs[2] := by simp [List.getD, h2]
    rw [← gdK_seem, seemF, hg]
    generalize bs[2] = k at *
    cases hi : inB k 0 6
    · have hp : plainF (getF k bs) = false := by
        have : (getF k bs).kind = k := by
          have hh : ¬ (0 ≤ k ∧ k ≤ 6) := by intro h; simp [inB, h.1, h.2] at hi
          unfold getF
          rw [if_neg (by omega), if_neg (by omega), if_neg (by omega), if_neg (by omega), if_neg (by omega), if_neg (by omega)]
        exact plain_kind _ (by rw [this]; exact hi)
      have : gdK k bs = false := by unfold gdK; rw [hp]; rfl
      rw [this, cond_false]
      have k7 : k ≥ 7 := by
        have hh : ¬ (0 ≤ k ∧ k ≤ 6) := by intro h; simp [inB, h.1, h.2] at hi
        omega
      unfold errR
      rw [c3] at h21
      rw [← hl] at c1 h21 h3
      have d1 : ¬ (((byL bs).length : Int) < 0) := by omega
      have d2 : ¬ (((byL bs).length : Int) < 3) := by omega
      simp only [frC, zeF]
      generalize uL z32 = z at *
      generalize byL bs = b at *
      simp -implicitDefEqProofs (maxSteps := 1000000) (disch := first | omega | rfl) [m47, h21, c1, d1, d2, hx, k7, hu', boxO, -List.reduceReplicate, KS, getS, getO, gS, zipN, dropW, takeW, wds, sea, seaL, refs, refsL, noExt, ren, boxO, putW, putB, w64, -getElem?_pos]
    · have := R15k (M + 900) d k bs (by omega) h3 hr c3 hx hi
      rw [show M + 900 + 100 = M + 1000 by omega, sem_succ tab (M + 1000) (d + 5) 47 m47 rfl] at this
      exact this
  · rw [bad (by omega), cond_false]
    unfold errR
    have c2' : ¬ (longF bs < 0) := by rcases long_cases bs hr with h | h <;> omega
    by_cases c4 : longF bs = bs.length
    · have c5 : longF bs = 2 := by omega
      have c6 : (bs.length : Int) = 2 := by omega
      rw [c5] at h21
      rw [← hl] at c1 c6
      simp only [frC, zeF]
      generalize uL z32 = z at *
      generalize byL bs = b at *
      simp -implicitDefEqProofs (maxSteps := 1000000) (disch := first | omega | rfl) [m47, h21, c6, hu', boxO, -List.reduceReplicate, KS, getS, getO, gS, zipN, dropW, takeW, wds, sea, seaL, refs, refsL, noExt, ren, boxO, putW, putB, putB1, -getElem?_pos]
    · have c5 : (longF bs != (bs.length : Int)) = true := by simp [c4]
      have c5' : (longF bs == (bs.length : Int)) = false := by simp [c4]
      generalize longF bs = l at *
      rw [← hl] at c1 c5 c5'
      simp only [frC, zeF]
      generalize uL z32 = z at *
      generalize byL bs = b at *
      by_cases c7 : l < 3 <;>
      simp -implicitDefEqProofs (maxSteps := 1000000) (disch := first | omega | rfl) [m47, h21, c1, c2', c5, c7, hu', boxO, -List.reduceReplicate, KS, getS, getO, gS, zipN, dropW, takeW, wds, sea, seaL, refs, refsL, noExt, ren, boxO, putW, putB, putB1, -getElem?_pos]
end
section
structure Evn where
  k : Int
  raw : List Int
  draw : Int
  boom : Bool
  keep : Int
  deriving Inhabited
def evC (e : Evn) : List PV := [.i .i64 e.k, .l false (byL e.raw), .i .u64 e.draw, .b e.boom, .i .i64 e.keep]
def evG (g : Bool) (e : Evn) : List PV := [.i .i64 e.k, .l g (byL e.raw), .i .u64 e.draw, .b e.boom, .i .i64 e.keep]
def evL (l : List Evn) : List (List PV) := l.map evC
theorem evL_len (l : List Evn) : (evL l).length = l.length := by simp [evL]
def EvR (xs : List (List PV)) (l : List Evn) : Prop := xs.length = l.length ∧ ∀ (i : Nat) (h : i < l.length), ∃ g, xs[i]? = some (evG g l[i])
theorem EvR_L (l : List Evn) : EvR (evL l) l := ⟨evL_len l, fun i h => ⟨false, by simp [evL, h]; rfl⟩⟩
theorem EvR_nil : EvR [] [] := ⟨rfl, fun i h => absurd h (by simp)⟩
theorem EvR_app {a b : List (List PV)} {l m : List Evn} (h : EvR a l) (k : EvR b m) : EvR (a ++ b) (l ++ m) := by
  refine ⟨by rw [List.length_append, List.length_append, h.1, k.1], fun i hi => ?_⟩
  by_cases hl : i < l.length
  · obtain ⟨g, hg⟩ := h.2 i hl
    exact ⟨g, by rw [List.getElem?_append_left (by rw [h.1]; exact hl), hg, List.getElem_append_left hl]⟩
  · rw [List.length_append] at hi
    obtain ⟨g, hg⟩ := k.2 (i - l.length) (by omega)
    exact ⟨g, by rw [List.getElem?_append_right (by rw [h.1]; omega), h.1, hg, List.getElem_append_right (by omega)]⟩
theorem EvR_one (g : Bool) (e : Evn) : EvR [evG g e] [e] := ⟨rfl, fun i h => ⟨g, by simp at h; subst h; rfl⟩⟩
def kindE (e : Evn) : Int := if e.k = 0 ∧ goodF e.raw = true then (seemF e.raw).kind else -1
def fraE (e : Evn) : Fra := seemF e.raw
def brkE (e : Evn) : Bool := e.k == 2 || (e.k == 0 && e.boom)
abbrev Mp := List (Int × Int)
def mgt (n : Int) : Mp → Option Int
  | [] => none
  | (m, u) :: r => if n = m then some u else mgt n r
def mst (n v : Int) : Mp → Mp
  | [] => [(n, v)]
  | (m, u) :: r => if n = m then (m, v) :: r else (m, u) :: mst n v r
theorem mgt_mst (n d v : Int) : ∀ m : Mp, mgt n (mst d v m) = if n = d then some v else mgt n m
  | [] => by simp only [mst, mgt]
  | (m, u) :: r => by
    simp only [mst]
    by_cases h : d = m
    · rw [if_pos h]
      simp only [mgt]
      by_cases h2 : n = d
      · rw [if_pos (by omega), if_pos h2]
      · rw [if_neg (by omega), if_neg h2, if_neg (by omega)]
    · rw [if_neg h]
      simp only [mgt, mgt_mst n d v r]
      by_cases h2 : n = m
      · rw [if_pos h2, if_pos h2, if_neg (by omega)]
      · rw [if_neg h2, if_neg h2]
def thereU (u : List Us) (no : Int) : Bool := decide (0 ≤ findU u no)
def whoS (u : List Us) (m : Mp) (e : Evn) : Int × Mp :=
  if kindE e = 0 then (if thereU u (fraE e).user = true then ((fraE e).user, mst e.draw (fraE e).user m) else (0, m))
  else if kindE e = 2 ∨ kindE e = 4 then ((mgt (fraE e).sess m).getD 0, m) else (0, m)
def aftM (u : List Us) (m : Mp) (e : Evn) : Mp := if brkE e = true then [] else (whoS u m e).2
def whoL (u : List Us) : Mp → List Evn → List Int
  | _, [] => []
  | m, e :: r => (whoS u m e).1 :: whoL u (aftM u m e) r
theorem whoL_len (u : List Us) : ∀ (l : List Evn) (m : Mp), (whoL u m l).length = l.length
  | [], _ => rfl
  | e :: r, m => by simp only [whoL, List.length_cons, whoL_len u r]
def stM (u : List Us) (m : Mp) (l : List Evn) : Mp := l.foldl (aftM u) m
theorem whoL_app (u : List Us) : ∀ (a b : List Evn) (m : Mp), whoL u m (a ++ b) = whoL u m a ++ whoL u (stM u m a) b
  | [], b, m => rfl
  | e :: r, b, m => by simp only [List.cons_append, whoL, whoL_app u r b, stM, List.foldl_cons]
theorem whoL_get (u : List Us) : ∀ (l : List Evn) (m : Mp) (i : Nat) (e : Evn), l[i]? = some e → (whoL u m l)[i]? = some (whoS u (stM u m (l.take i)) e).1
  | [], _, _, _, h => by simp at h
  | x :: r, m, 0, e, h => by
    simp at h; subst h
    simp [whoL, stM]
  | x :: r, m, i + 1, e, h => by
    have := whoL_get u r (aftM u m x) i e (by simpa using h)
    simpa [whoL, stM] using this
def whoB (u : List Us) (d : Int) : List Evn → Int
  | [] => 0
  | e :: r => if brkE e = true then 0 else if kindE e = 0 ∧ e.draw = d ∧ thereU u (fraE e).user = true then (fraE e).user else whoB u d r
def whoR (u : List Us) (pre : List Evn) (e : Evn) : Int :=
  if kindE e = 0 ∧ thereU u (fraE e).user = true then (fraE e).user else if kindE e ≠ 2 ∧ kindE e ≠ 4 then 0 else whoB u (fraE e).sess pre.reverse
theorem stM_snoc (u : List Us) (m : Mp) (l : List Evn) (e : Evn) : stM u m (l ++ [e]) = aftM u (stM u m l) e := by simp [stM]
theorem whoB_st (u : List Us) (d : Int) : ∀ (r : List Evn), whoB u d r = (mgt d (stM u [] r.reverse)).getD 0
  | [] => rfl
  | e :: r => by
    rw [List.reverse_cons, stM_snoc]
    simp only [whoB, aftM]
    have ih := whoB_st u d r
    cases brkE e
    · simp only [Bool.false_eq_true, if_false]
      unfold whoS
      by_cases h0 : kindE e = 0
      · rw [if_pos h0]
        cases ht : thereU u (fraE e).user
        · rw [if_neg (by simp), if_neg (by simp), ih]
        · rw [if_pos rfl]
          simp only [mgt_mst]
          by_cases hd : e.draw = d
          · rw [if_pos (by simp [h0, hd]), if_pos hd.symm]; rfl
          · rw [if_neg (by intro h; exact hd h.2.1), if_neg (Ne.symm hd), ih]
      · rw [if_neg (by intro h; exact h0 h.1), if_neg h0]
        split <;> exact ih
    · simp [mgt]
theorem whoR_S (u : List Us) (pre : List Evn) (e : Evn) : whoR u pre e = (whoS u (stM u [] pre) e).1 := by
  unfold whoR whoS
  rw [whoB_st, List.reverse_reverse]
  by_cases h0 : kindE e = 0
  · cases ht : thereU u (fraE e).user <;> simp [h0]
  · by_cases h : kindE e = 2 ∨ kindE e = 4
    · have h' : ¬ (kindE e ≠ 2 ∧ kindE e ≠ 4) := by omega
      rw [if_neg (by intro h; exact h0 h.1), if_neg h', if_neg h0, if_pos h]
    · have h' : kindE e ≠ 2 ∧ kindE e ≠ 4 := by omega
      rw [if_neg (by intro h; exact h0 h.1), if_pos h', if_neg h0, if_neg h]
def crE : Evn := ⟨2, [], 0, false, 0⟩
theorem mayFrom_pos : ∀ (l : List Us) (p : Int), 0 ≤ p → mayFrom p l = true → ∀ (k : Nat) (x : Us), l[k]? = some x → 1 ≤ x.1
  | [], _, _, _, _, _, h => by simp at h
  | u :: r, p, hp, hm, k, x, h => by
    simp only [mayFrom, okU, inB, Bool.and_eq_true, decide_eq_true_eq] at hm
    rcases k with _ | k
    · simp at h; subst h; omega
    · exact mayFrom_pos r u.1 (by omega) hm.2 k x (by simpa using h)
theorem mayU_pos {l : List Us} (h : mayU l = true) {k : Nat} {x : Us} (hx : l[k]? = some x) : 1 ≤ x.1 := by
  simp only [mayU, Bool.and_eq_true] at h
  exact mayFrom_pos l 0 (Int.le_refl 0) h.1 k x hx
def vieU (u : List Us) (w : Int) : Bool := roleU u w == 0
def stripL (u : List Us) : Mp → List Evn → List Evn
  | _, [] => []
  | m, e :: r => (if vieU u (whoS u m e).1 = true then (if brkE e = true then [crE] else []) else [e]) ++ stripL u (aftM u m e) r
theorem role0 (u : List Us) : roleU u 0 = -1 := by
  rcases find_cases u 0 with ⟨_, h⟩ | ⟨k, x, h1, h2, h3, h4, _⟩
  · exact h
  · exfalso
    have := mayU_pos h4 h2
    omega
theorem kind_cr : kindE crE = -1 := by unfold kindE crE; rw [if_neg (by intro h; simp at h)]
theorem whoS_cr (u : List Us) (m : Mp) : whoS u m crE = (0, m) := by
  unfold whoS; rw [kind_cr]; simp
theorem brk_cr : brkE crE = true := rfl
theorem vie0 (u : List Us) : vieU u 0 = false := by unfold vieU; rw [role0]; rfl
def Near (u : List Us) (m n : Mp) : Prop := ∀ d, (mgt d m = none → mgt d n = none) ∧ ∀ x, mgt d m = some x → vieU u x = false → mgt d n = some x
theorem near_step {u : List Us} {m n : Mp} (h : Near u m n) (e : Evn) (hv : vieU u (whoS u m e).1 = false) : (whoS u n e).1 = (whoS u m e).1 ∧ Near u (aftM u m e) (aftM u n e) := by
  have key : (whoS u n e).1 = (whoS u m e).1 ∧ Near u (whoS u m e).2 (whoS u n e).2 := by
    unfold whoS at hv ⊢
    by_cases h0 : kindE e = 0
    · simp only [if_pos h0] at hv ⊢
      cases ht : thereU u (fraE e).user
      · rw [if_neg (by simp), if_neg (by simp)]; exact ⟨rfl, h⟩
      · rw [if_pos rfl, if_pos rfl]
        refine ⟨rfl, fun d => ?_⟩
        rw [mgt_mst, mgt_mst]
        by_cases hd : d = e.draw
        · rw [if_pos hd, if_pos hd]; exact ⟨fun h => (by cases h), fun x hx _ => hx⟩
        · rw [if_neg hd, if_neg hd]; exact h d
    · simp only [if_neg h0] at hv ⊢
      by_cases h2 : kindE e = 2 ∨ kindE e = 4
      · simp only [if_pos h2] at hv ⊢
        refine ⟨?_, h⟩
        cases hm : mgt (fraE e).sess m with
        | none => rw [(h _).1 hm]
        | some x => rw [hm] at hv; rw [(h _).2 x hm hv]
      · simp only [if_neg h2]; exact ⟨by first | rfl | trivial, h⟩
  refine ⟨key.1, ?_⟩
  unfold aftM
  cases brkE e
  · simp only [Bool.false_eq_true, if_false]; exact key.2
  · rw [if_pos rfl, if_pos rfl]; exact fun d => ⟨fun _ => rfl, fun x hx => by simp [mgt] at hx⟩
theorem near_drop {u : List Us} {m n : Mp} (h : Near u m n) (e : Evn) (hv : vieU u (whoS u m e).1 = true) (hb : brkE e = false) : Near u (aftM u m e) n := by
  unfold aftM
  rw [hb]
  simp only [Bool.false_eq_true, if_false]
  unfold whoS at hv ⊢
  by_cases h0 : kindE e = 0
  · simp only [if_pos h0] at hv ⊢
    cases ht : thereU u (fraE e).user
    · rw [if_neg (by simp)]; exact h
    · rw [ht, if_pos rfl] at hv
      rw [if_pos rfl]
      intro d
      show (mgt d (mst e.draw (fraE e).user m) = none → _) ∧ ∀ x, mgt d (mst e.draw (fraE e).user m) = some x → _
      rw [mgt_mst]
      by_cases hd : d = e.draw
      · rw [if_pos hd]
        exact ⟨fun h => (by cases h), fun x hx hx2 => by injection hx with hx; subst hx; rw [hv] at hx2; cases hx2⟩
      · rw [if_neg hd]; exact h d
  · simp only [if_neg h0]
    split <;> exact h
theorem strip_keep (u : List Us) : ∀ (l : List Evn) (m n : Mp), Near u m n → stripL u n (stripL u m l) = stripL u m l ∧ (∀ x ∈ whoL u n (stripL u m l), vieU u x = false)
  | [], m, n, h => ⟨rfl, fun x hx => by simp [stripL, whoL] at hx⟩
  | e :: r, m, n, h => by
    simp only [stripL]
    cases hv : vieU u (whoS u m e).1
    · obtain ⟨h1, h2⟩ := near_step h e hv
      obtain ⟨g1, g2⟩ := strip_keep u r _ _ h2
      rw [if_neg (by simp)]
      simp only [List.singleton_append, stripL, whoL, h1, hv]
      rw [if_neg (by simp), g1]
      refine ⟨rfl, fun x hx => ?_⟩
      rcases List.mem_cons.1 hx with rfl | hx
      · exact hv
      · exact g2 x hx
    · rw [if_pos rfl]
      cases hb : brkE e
      · rw [if_neg (by simp), List.nil_append]
        exact strip_keep u r _ _ (near_drop h e hv hb)
      · rw [if_pos rfl]
        have h3 : Near u (aftM u m e) (aftM u n crE) := by
          unfold aftM
          rw [hb, brk_cr, if_pos rfl, if_pos rfl]
          exact fun d => ⟨fun _ => rfl, fun x hx => by simp [mgt] at hx⟩
        obtain ⟨g1, g2⟩ := strip_keep u r _ _ h3
        simp only [List.singleton_append, stripL, whoL, whoS_cr, vie0]
        rw [if_neg (by simp), g1]
        refine ⟨rfl, fun x hx => ?_⟩
        rcases List.mem_cons.1 hx with rfl | hx
        · exact vie0 u
        · exact g2 x hx
theorem near_nil (u : List Us) : Near u [] [] := fun d => ⟨fun h => h, fun x hx => by simp [mgt] at hx⟩
def helE (e : Evn) : Bool := kindE e == 0
def clrL : List Int → List Evn → Bool
  | _, [] => true
  | had, e :: r => if helE e = true then (if had.contains e.draw = true then false else clrL (had ++ [e.draw]) r) else clrL had r
def hadE (e : Evn) (l : List Evn) : Bool := l.any fun x => helE x && x.draw == e.draw
def clrQ : List Evn → List Evn → Bool
  | _, [] => true
  | pre, e :: r => !(helE e && hadE e pre) && clrQ (pre ++ [e]) r
def drawsE (l : List Evn) : List Int := (l.filter helE).map (·.draw)
theorem draws_had (e : Evn) (l : List Evn) : (drawsE l).contains e.draw = hadE e l := by
  induction l with
  | nil => rfl
  | cons x r ih =>
    simp only [drawsE, hadE, List.filter_cons, List.any_cons] at ih ⊢
    cases hx : helE x
    · simp only [Bool.false_eq_true, if_false, Bool.false_and, Bool.false_or]; exact ih
    · simp only [if_true, List.map_cons, List.contains_cons, Bool.true_and, ih]
      rw [Bool.beq_comm]
theorem clrL_Q : ∀ (r pre : List Evn), clrL (drawsE pre) r = clrQ pre r
  | [], _ => rfl
  | e :: r, pre => by
    have h : drawsE (pre ++ [e]) = if helE e = true then drawsE pre ++ [e.draw] else drawsE pre := by
      simp only [drawsE, List.filter_append, List.filter_cons, List.filter_nil]
      cases helE e <;> simp
    have ih := clrL_Q r (pre ++ [e])
    rw [h] at ih
    simp only [clrL, clrQ, draws_had]
    cases he : helE e
    · rw [he] at ih; simpa using ih
    · rw [he] at ih
      cases hadE e pre <;> simpa using ih
theorem clrL_snoc : ∀ (r : List Evn) (had : List Int) (e : Evn), clrL had (r ++ [e]) = (clrL had r && !(helE e && (had.contains e.draw || hadE e r)))
  | [], had, e => by
    simp only [List.nil_append, clrL, hadE, List.any_nil, Bool.or_false, Bool.true_and]
    cases helE e <;> cases had.contains e.draw <;> rfl
  | x :: r, had, e => by
    simp only [List.cons_append, clrL, hadE, List.any_cons]
    have ih := clrL_snoc r
    cases hx : helE x
    · simp only [Bool.false_eq_true, if_false, Bool.false_and, Bool.false_or]; exact ih had e
    · simp only [if_true, Bool.true_and]
      cases hc : had.contains x.draw
      · simp only [Bool.false_eq_true, if_false]
        rw [ih]
        have : (had ++ [x.draw]).contains e.draw = (had.contains e.draw || (x.draw == e.draw)) := by
          simp only [List.contains_eq_any_beq, List.any_append, List.any_cons, List.any_nil, Bool.or_false]
          rw [Bool.beq_comm (a := e.draw)]
        rw [this, Bool.or_assoc]
        rfl
      · simp
end
end Go.Proofs.Ytnkapponcbgbhaa
