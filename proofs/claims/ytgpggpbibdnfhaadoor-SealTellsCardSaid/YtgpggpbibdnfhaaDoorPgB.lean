/- Plain lemmas, part 2. -/
import Derived.Test.YtgpggpbibdnfhaaDoorPgA
import Derived.KernelRfl
set_option linter.all false
set_option linter.unusedSimpArgs false
set_option linter.unusedVariables false
namespace Go.Proofs.YtgpggpbibdnfhaaDoor
open Go
section
def sl40 (x0 x1 x2 x3 x4 x5 x6 x7 k : Int) : SL := [(2, .p 80 0 0 0 none), (4, .p 96 0 0 0 none), (5, .sl 208 0 0 64), (6, .i .u32 x0), (7, .i .u32 x1), (8, .i .u32 x2), (9, .i .u32 x3), (10, .i .u32 x4), (11, .i .u32 x5), (12, .i .u32 x6), (13, .i .u32 x7), (14, .i .i64 k)]
def ob40 (r z : List PV) (w : List (List PV)) : OB := [(80, box [.blob 8 r] 8), (96, box [.blob 8 z] 8), (208, row w 1 true)]
set_option maxHeartbeats 8000000 in
theorem stepJ43 (k : Nat) (r z w mm : List PV) (wr : List (List PV)) (x0 x1 x2 x3 x4 x5 x6 x7 wk mk : Int) (hk : k < 64) (hm : gMore = [.blob 64 mm]) (h0 : w[k]? = some (.i .u32 wk)) (g0 : wr[k]? = some [.i .u32 wk]) (hwr : wr.length = 64) (h1 : mm[k]? = some (.i .u32 mk))
    (h47 : ∀ N d : Nat, sem tab N (d + 1) 71 [.i .i64 k] [] = some (.i .u32 mk, [])) :
    ∃ t u, (∀ (N d : Nat) (g : SL → OB → Option R), m51b1 (sem tab N (d + 2)) N [] g (sl43 k) (ob43 r z w [.i .u32 x0, .i .u32 x1, .i .u32 x2, .i .u32 x3, .i .u32 x4, .i .u32 x5, .i .u32 x6, .i .u32 x7]) =
      g (sl43 (k + 1 : Nat)) (ob43 r z w [.i .u32 t, .i .u32 x0, .i .u32 x1, .i .u32 x2, .i .u32 u, .i .u32 x4, .i .u32 x5, .i .u32 x6])) ∧
      ∀ (N d : Nat) (g : SL → OB → Option R), m66b0 (sem tab N (d + 1)) N [] g (sl40 x0 x1 x2 x3 x4 x5 x6 x7 k) (ob40 r z wr) = g (sl40 t x0 x1 x2 u x4 x5 x6 (k + 1 : Nat)) (ob40 r z wr) := by
  have c1 : (k : Int) < 64 := by omega
  have c3 : (0 : Int) ≤ k := by omega
  apply Exists.intro
  apply Exists.intro
  constructor
  · intro N d g
    simp -implicitDefEqProofs (maxSteps := 1000000) (disch := first | omega | rfl) [m51b1, sl43, ob43, box, hm, turn6, turn11, turn25, turn2, turn13, turn22, hk, c1, c3, h0, h1, k_com, binI, KS, getS, getO, gS, zipN, dropW, takeW, wds, stvs, sea, seaL, refs, refsL, refsEls, refsO, isPureEls, isPures, isPure, noExt, noExts, noExtEls, cellsL, ren, renL, renEls, keepO, keepS, keysO, refsS, refsOB, cntN, headC, setS, boxO, row, putW, putB, putB1, eNl, newOs, frz, renO, noExtO, zps, zp, two32, w64, -getElem?_pos]
    rfl
  · intro N d g
    have h47 := h47 N d
    simp -implicitDefEqProofs (maxSteps := 1000000) (disch := first | omega | rfl) [m66b0, sl40, ob40, box, t46_6, t46_11, t46_25, t46_2, t46_13, t46_22, hk, c1, c3, g0, hwr, h47, k_com, binI, KS, getS, getO, gS, zipN, dropW, takeW, wds, stvs, sea, seaL, refs, refsL, refsEls, refsO, isPureEls, isPures, isPure, noExt, noExts, noExtEls, cellsL, ren, renL, renEls, keepO, keepS, keysO, refsS, refsOB, cntN, headC, setS, boxO, row, putW, putB, putB1, eNl, newOs, frz, renO, noExtO, zps, zp, two32, w64, -getElem?_pos]
theorem addE_comm (a b : Int) : IntKind.u32.wrap (a + b) = IntKind.u32.wrap (b + a) := by rw [Int.add_comm]
set_option maxHeartbeats 4000000 in
theorem step43c (k : Nat) (r z x : List PV) (a b : Int) (hk : k < 8) (hx : x.length = 8) (h0 : x[k]? = some (.i .u32 a)) (h1 : r[k]? = some (.i .u32 b)) :
    ∀ (N d : Nat) (g : SL → OB → Option R), m51b0 (sem tab N (d + 2)) N [] g (sl43b k) (ob43b r z x) = g (sl43b (k + 1 : Nat)) (ob43b r z (x.set k (.i .u32 (IntKind.u32.wrap (a + b))))) := by
  have c1 : (k : Int) < 8 := by omega
  have c3 : (0 : Int) ≤ k := by omega
  intro N d g
  simp -implicitDefEqProofs (maxSteps := 1000000) (disch := first | omega | rfl) [m51b0, sl43b, ob43b, box, hk, hx, c1, c3, h0, h1, KS, getS, getO, gS, zipN, dropW, takeW, wds, stvs, sea, seaL, refs, refsL, refsEls, refsO, isPureEls, isPures, isPure, noExt, noExts, noExtEls, cellsL, ren, renL, renEls, keepO, keepS, keysO, refsS, refsOB, cntN, headC, setS, boxO, row, putW, putB, putB1, eNl, newOs, frz, renO, noExtO, zps, zp, two32, w64, -getElem?_pos]
set_option maxHeartbeats 8000000 in
theorem fin43 (N d M : Nat) (z : List PV) (x0 x1 x2 x3 x4 x5 x6 x7 r0 r1 r2 r3 r4 r5 r6 r7 : Int) :
    loopC (m51b0 (sem tab N (d + 2)) N []) (M + 9) (sl43b 0) (ob43b (wL [r0, r1, r2, r3, r4, r5, r6, r7]) z (wL [x0, x1, x2, x3, x4, x5, x6, x7])) = some (.agg [.blob 8 (wL [IntKind.u32.wrap (x0 + r0), IntKind.u32.wrap (x1 + r1), IntKind.u32.wrap (x2 + r2), IntKind.u32.wrap (x3 + r3), IntKind.u32.wrap (x4 + r4), IntKind.u32.wrap (x5 + r5), IntKind.u32.wrap (x6 + r6), IntKind.u32.wrap (x7 + r7)])], []) := by
  have e : (0 : Int) = ((0 : Nat) : Int) := rfl
  rw [e, show M + 9 = (M + 8) + 1 from rfl, k_loop, step43c 0 _ _ _ x0 r0 (by omega) rfl rfl rfl]
  rw [k_loop, step43c (0 + 1) _ _ _ x1 r1 (by omega) rfl rfl rfl]
  rw [k_loop, step43c (0 + 1 + 1) _ _ _ x2 r2 (by omega) rfl rfl rfl]
  rw [k_loop, step43c (0 + 1 + 1 + 1) _ _ _ x3 r3 (by omega) rfl rfl rfl]
  rw [k_loop, step43c (0 + 1 + 1 + 1 + 1) _ _ _ x4 r4 (by omega) rfl rfl rfl]
  rw [k_loop, step43c (0 + 1 + 1 + 1 + 1 + 1) _ _ _ x5 r5 (by omega) rfl rfl rfl]
  rw [k_loop, step43c (0 + 1 + 1 + 1 + 1 + 1 + 1) _ _ _ x6 r6 (by omega) rfl rfl rfl]
  rw [k_loop, step43c (0 + 1 + 1 + 1 + 1 + 1 + 1 + 1) _ _ _ x7 r7 (by omega) rfl rfl rfl]
  rw [k_loop]
  exact end43b N d _ _ _ _
set_option maxHeartbeats 8000000 in
theorem fin40 (N d : Nat) (g : SL → OB → Option R) (z : List PV) (wr : List (List PV)) (x0 x1 x2 x3 x4 x5 x6 x7 r0 r1 r2 r3 r4 r5 r6 r7 : Int) :
    m66b0 (sem tab N (d + 1)) N [] g (sl40 x0 x1 x2 x3 x4 x5 x6 x7 64) (ob40 (wL [r0, r1, r2, r3, r4, r5, r6, r7]) z wr) = some (.agg [.blob 8 (wL [IntKind.u32.wrap (x0 + r0), IntKind.u32.wrap (x1 + r1), IntKind.u32.wrap (x2 + r2), IntKind.u32.wrap (x3 + r3), IntKind.u32.wrap (x4 + r4), IntKind.u32.wrap (x5 + r5), IntKind.u32.wrap (x6 + r6), IntKind.u32.wrap (x7 + r7)])], []) := by
  have e : ∀ a0 a1 a2 a3 a4 a5 a6 a7 : Int, wL [a0, a1, a2, a3, a4, a5, a6, a7] = [.i .u32 a0, .i .u32 a1, .i .u32 a2, .i .u32 a3, .i .u32 a4, .i .u32 a5, .i .u32 a6, .i .u32 a7] := fun _ _ _ _ _ _ _ _ => rfl
  rw [addE_comm x0, addE_comm x1, addE_comm x2, addE_comm x3, addE_comm x4, addE_comm x5, addE_comm x6, addE_comm x7, e, e]
  simp -implicitDefEqProofs (maxSteps := 1000000) (disch := first | omega | rfl) [m66b0, sl40, ob40, box, KS, getS, getO, gS, zipN, dropW, takeW, wds, stvs, sea, seaL, refs, refsL, refsEls, refsO, isPureEls, isPures, isPure, noExt, noExts, noExtEls, cellsL, ren, renL, renEls, keepO, keepS, keysO, refsS, refsOB, cntN, headC, setS, boxO, row, putW, putB, putB1, eNl, newOs, frz, renO, noExtO, zps, zp, two32, w64, -getElem?_pos]
end
section
theorem wL_inj {a b : List Int} (h : wL a = wL b) : a = b := by
  have : ∀ (a b : List Int), wL a = wL b → a = b := by
    intro a
    induction a with
    | nil => intro b h; cases b with
      | nil => rfl
      | cons y b => simp [wL] at h
    | cons x a ih => intro b h; cases b with
      | nil => simp [wL] at h
      | cons y b =>
        simp only [wL, List.map_cons, List.cons.injEq, PV.i.injEq, true_and] at h
        rw [h.1, ih b h.2]
  exact this a b h
theorem loopJ43 (r0 r1 r2 r3 r4 r5 r6 r7 : Int) (ws : List Int) (hw : ws.length = 64) (z : List PV) : ∀ (n k : Nat) (x0 x1 x2 x3 x4 x5 x6 x7 : Int), k + n = 64 → ∃ ys : List Int, ys.length = 8 ∧ (∀ y ∈ ys, 0 ≤ y ∧ y < 4294967296) ∧
    (∀ M' d M : Nat, loopC (m51b1 (sem tab (M' + 9) (d + 2)) (M' + 9) []) (M + 1 + n) (sl43 k) (ob43 (wL [r0, r1, r2, r3, r4, r5, r6, r7]) z (wL ws) (wL [x0, x1, x2, x3, x4, x5, x6, x7])) = some (.agg [.blob 8 (wL ys)], [])) ∧
    ∀ N d M : Nat, loopC (m66b0 (sem tab N (d + 1)) N []) (M + 1 + n) (sl40 x0 x1 x2 x3 x4 x5 x6 x7 k) (ob40 (wL [r0, r1, r2, r3, r4, r5, r6, r7]) z (wrow ws)) = some (.agg [.blob 8 (wL ys)], []) := by
  intro n
  induction n with
  | zero =>
    intro k x0 x1 x2 x3 x4 x5 x6 x7 hk
    have : k = 64 := by omega
    subst this
    refine ⟨[IntKind.u32.wrap (x0 + r0), IntKind.u32.wrap (x1 + r1), IntKind.u32.wrap (x2 + r2), IntKind.u32.wrap (x3 + r3), IntKind.u32.wrap (x4 + r4), IntKind.u32.wrap (x5 + r5), IntKind.u32.wrap (x6 + r6), IntKind.u32.wrap (x7 + r7)], rfl, fun y hy => ?_, fun M' d M => ?_, fun N d M => ?_⟩
    · simp only [List.mem_cons, List.not_mem_nil, or_false] at hy
      rcases hy with rfl | rfl | rfl | rfl | rfl | rfl | rfl | rfl <;> rw [IntKind.wrap_u32] <;> omega
    · rw [Nat.add_zero, k_loop]
      have h := mid43 (M' + 9) d (loopC (m51b1 (sem tab (M' + 9) (d + 2)) (M' + 9) []) M) (wL [r0, r1, r2, r3, r4, r5, r6, r7]) z (wL ws) (wL [x0, x1, x2, x3, x4, x5, x6, x7])
      rw [show ((64 : Nat) : Int) = 64 from rfl, h]
      exact fin43 (M' + 9) d M' z x0 x1 x2 x3 x4 x5 x6 x7 r0 r1 r2 r3 r4 r5 r6 r7
    · rw [Nat.add_zero, k_loop]
      exact fin40 N d _ z (wrow ws) x0 x1 x2 x3 x4 x5 x6 x7 r0 r1 r2 r3 r4 r5 r6 r7
  | succ n ih =>
    intro k x0 x1 x2 x3 x4 x5 x6 x7 hk
    obtain ⟨wk, hwk⟩ := get_of hw (show k < 64 by omega)
    obtain ⟨mk, hmk, h47⟩ : ∃ mk, nMore[k]? = some mk ∧ ∀ N d : Nat, sem tab N (d + 1) 71 [.i .i64 k] [] = some (.i .u32 mk, []) := by
      obtain ⟨mk, h, _⟩ := t47 0 0 k (by omega)
      refine ⟨mk, h, fun N d => ?_⟩
      obtain ⟨mk', h', h''⟩ := t47 N d k (by omega)
      rw [h] at h'
      obtain rfl := Option.some.inj h'
      exact h''
    have e : ∀ a0 a1 a2 a3 a4 a5 a6 a7 : Int, wL [a0, a1, a2, a3, a4, a5, a6, a7] = [.i .u32 a0, .i .u32 a1, .i .u32 a2, .i .u32 a3, .i .u32 a4, .i .u32 a5, .i .u32 a6, .i .u32 a7] := fun _ _ _ _ _ _ _ _ => rfl
    obtain ⟨t, u, h1, h2⟩ := stepJ43 k (wL [r0, r1, r2, r3, r4, r5, r6, r7]) z (wL ws) (nMore.map (.i .u32)) (wrow ws) x0 x1 x2 x3 x4 x5 x6 x7 wk mk (by omega) rfl (by rw [wL_get, hwk]; rfl) (by rw [wrow_get, hwk]; rfl) (by rw [wrow_len]; exact hw) (by rw [List.getElem?_map, hmk]; rfl) h47
    obtain ⟨ys, i1, i0, i2, i3⟩ := ih (k + 1) t x0 x1 x2 u x4 x5 x6 (by omega)
    refine ⟨ys, i1, i0, fun M' d M => ?_, fun N d M => ?_⟩
    · rw [show M + 1 + (n + 1) = (M + 1 + n) + 1 by omega, k_loop, e x0, h1, ← e t]
      exact i2 M' d M
    · rw [show M + 1 + (n + 1) = (M + 1 + n) + 1 by omega, k_loop, h2]
      exact i3 N d M
set_option maxHeartbeats 4000000 in
/-- A round, here and there. -/
theorem J43 (rs xs : List Int) (hr : rs.length = 8) (hx : xs.length = 64) (hb : ∀ n ∈ xs, 0 ≤ n ∧ n ≤ 255) : ∃ ys : List Int, ys.length = 8 ∧ (∀ y ∈ ys, 0 ≤ y ∧ y < 4294967296) ∧
    (∀ M d : Nat, sem tab (M + 65) (d + 4) 51 [.agg [.blob 8 (wL rs)], .l false (byL xs)] [] = some (.agg [.blob 8 (wL ys)], [])) ∧
    ∀ M d : Nat, sem tab (M + 65) (d + 3) 66 [.agg [.blob 8 (wL rs)], .l false (byL xs)] [] = some (.agg [.blob 8 (wL ys)], []) := by
  obtain ⟨ws, hw, h48, h45⟩ := J48 xs hx hb
  obtain ⟨r0, r1, r2, r3, r4, r5, r6, r7, rfl⟩ := eight hr
  obtain ⟨ys, h1, h0, h2, h3⟩ := loopJ43 r0 r1 r2 r3 r4 r5 r6 r7 ws hw (List.replicate 8 (.i .u32 0)) 64 0 r0 r1 r2 r3 r4 r5 r6 r7 rfl
  refine ⟨ys, h1, h0, fun M d => ?_, fun M d => ?_⟩
  · have h48 := h48 M d
    have h2 := h2 (M + 56) (d + 1) M
    rw [sem_succ tab (M + 65) (d + 3) 51 m51 rfl]
    generalize byL xs = b at *
    generalize wL [r0, r1, r2, r3, r4, r5, r6, r7] = r at *
    generalize wL ws = w at *
    generalize wL ys = y at *
    generalize hz : List.replicate 8 (PV.i IntKind.u32 0) = z at *
    generalize hz2 : List.replicate 64 (PV.i IntKind.u32 0) = z2 at *
    simp only [sl43, ob43, box, Nat.add_assoc] at h2
    simp -implicitDefEqProofs (maxSteps := 1000000) (disch := first | omega | rfl) [m51, hz, hz2, h48, KS, getS, getO, gS, zipN, dropW, takeW, wds, stvs, sea, seaL, refs, refsL, refsEls, refsO, isPureEls, isPures, isPure, noExt, noExts, noExtEls, cellsL, ren, renL, renEls, keepO, keepS, keysO, refsS, refsOB, cntN, headC, setS, boxO, row, putW, putB, putB1, eNl, newOs, frz, renO, noExtO, zps, zp, two32, w64, -getElem?_pos]
    exact h2
  · have h45 := h45 M d
    have h3 := h3 (M + 65) (d + 1) M
    rw [sem_succ tab (M + 65) (d + 2) 66 m66 rfl]
    have e : wL [r0, r1, r2, r3, r4, r5, r6, r7] = [.i .u32 r0, .i .u32 r1, .i .u32 r2, .i .u32 r3, .i .u32 r4, .i .u32 r5, .i .u32 r6, .i .u32 r7] := rfl
    rw [e] at h3 ⊢
    have hwl := wrow_len ws
    rw [hw] at hwl
    generalize byL xs = b at *
    generalize wrow ws = w at *
    generalize wL ys = y at *
    generalize hz : List.replicate 8 (PV.i IntKind.u32 0) = z at *
    simp only [sl40, ob40, box, row, Nat.add_assoc] at h3
    simp -implicitDefEqProofs (maxSteps := 1000000) (disch := first | omega | rfl) [m66, hz, h45, hwl, KS, getS, getO, gS, zipN, dropW, takeW, wds, stvs, sea, seaL, refs, refsL, refsEls, refsO, isPureEls, isPures, isPure, noExt, noExts, noExtEls, cellsL, ren, renL, renEls, keepO, keepS, keysO, refsS, refsOB, cntN, headC, setS, boxO, row, putW, putB, putB1, eNl, newOs, frz, renO, noExtO, zps, zp, two32, w64, -getElem?_pos]
    exact h3
theorem L40 (M d : Nat) (rs xs : List Int) (hr : rs.length = 8) (hx : xs.length = 64) (hb : ∀ n ∈ xs, 0 ≤ n ∧ n ≤ 255) : sem tab (M + 65) (d + 3) 66 [.agg [.blob 8 (wL rs)], .l false (byL xs)] [] = some (.agg [.blob 8 (wL (rnd rs xs))], []) := by
  obtain ⟨ys, h1, h0, h2, h3⟩ := J43 rs xs hr hx hb
  have e := (h2 0 0).symm.trans (L43 0 0 rs xs hr hx)
  have e : wL ys = wL (rnd rs xs) := by
    injection e with e; injection e with e; injection e with e; injection e with e; injection e with e
  rw [← e]; exact h3 M d
theorem rnd_range (rs xs : List Int) (hr : rs.length = 8) (h : ∀ y ∈ rs, 0 ≤ y ∧ y < 4294967296) (hb : ∀ n ∈ xs, 0 ≤ n ∧ n ≤ 255) : ∀ y ∈ rnd rs xs, 0 ≤ y ∧ y < 4294967296 := by
  by_cases hx : xs.length = 64
  · obtain ⟨ys, h1, h0, h2, h3⟩ := J43 rs xs hr hx hb
    have e := (h2 0 0).symm.trans (L43 0 0 rs xs hr hx)
    have e : wL ys = wL (rnd rs xs) := by
      injection e with e; injection e with e; injection e with e; injection e with e; injection e with e
    rw [← wL_inj e]; exact h0
  · unfold rnd
    rw [dif_neg (fun h => hx h.2)]; exact h
theorem rounds_range : ∀ (n : Nat) (rs xs : List Int), xs.length ≤ n → rs.length = 8 → (∀ y ∈ rs, 0 ≤ y ∧ y < 4294967296) → (∀ n ∈ xs, 0 ≤ n ∧ n ≤ 255) → ∀ y ∈ (rounds rs xs).1, 0 ≤ y ∧ y < 4294967296 := by
  intro n
  induction n with
  | zero =>
    intro rs xs h hr h1 hb
    rw [rounds_short (by omega)]; exact h1
  | succ n ih =>
    intro rs xs h hr h1 hb
    by_cases hx : xs.length < 64
    · rw [rounds_short hx]; exact h1
    · rw [rounds_long hx]
      exact ih _ _ (by simp; omega) (rnd_len _ _ hr) (rnd_range _ _ hr h1 (fun n hn => hb n (List.mem_of_mem_take hn))) (fun n hn => hb n (List.mem_of_mem_drop hn))
end
section
theorem L17 (N d : Nat) (ns xs : List Int) (L : Int) : sem tab N (d + 1) 65 [hashV ns false xs L] [] = some (.b (mayB xs.length L), []) := by
  rw [← L23 N d ns xs L, sem_succ tab N d 65 m65 rfl, sem_succ tab N d 40 m40 rfl]
  rfl
theorem L22 (N d : Nat) : sem tab N (d + 1) 58 [] [] = some (hashV nFirst true [] 0, []) := by
  rw [sem_succ tab N d 58 m58 rfl]
  rfl
def rowv (t : List (List PV)) (v : Nat) : Obj' := { els := t, w := 1, pu := true, g := true, cap := none, ver := v, fro := false }
def sl20 (v i n : Nat) : SL := [(4, .p 96 0 0 0 none), (6, .sl 248 v i n), (7, .p 120 0 0 0 none)]
def ob20 (hc : List PV) (r : List PV) (L : Int) (t : List (List PV)) (v : Nat) : OB := [(96, box hc 10), (120, box [.blob 8 r, .e true, .i .i64 L] 10), (248, rowv t v)]
set_option maxHeartbeats 4000000 in
theorem step20 (M d : Nat) (g : SL → OB → Option R) (rs T : List Int) (L : Int) (z8 : List PV) (v i n : Nat) (hr : rs.length = 8) (hn : 64 ≤ n) (hi : i + n = T.length) (hb : ∀ n ∈ T, 0 ≤ n ∧ n ≤ 255) :
    m57b0 (sem tab (M + 65) (d + 3)) (M + 65) [] g (sl20 v i n) (ob20 [.blob 8 z8, .e true, .i .i64 0] (wL rs) L (byL T) v) = g (sl20 v (i + 64) (n - 64)) (ob20 [.blob 8 z8, .e true, .i .i64 0] (wL (rnd rs ((T.drop i).take 64))) L (byL T) v) := by
  have h40 := L40 M d rs ((T.drop i).take 64) hr (by simp; omega) (fun x hx => hb x (List.mem_of_mem_drop (List.mem_of_mem_take hx)))
  have hl := byL_len T
  have e : List.take 64 (List.drop i (byL T)) = byL ((T.drop i).take 64) := by rw [byL_drop, byL_take]
  rw [← e] at h40
  rw [← hl] at hi
  generalize byL T = t at *
  generalize wL (rnd rs ((T.drop i).take 64)) = r2 at *
  generalize wL rs = r at *
  have c1 : 64 ≤ (n : Int) := by omega
  have c2 : i + 64 ≤ t.length := by omega
  have c3 : (64 : Int) ≤ n := by omega
  have c4 : i + n ≤ t.length := by omega
  have c5 : (i : Int) + 64 ≤ t.length := by omega
  have c6 : (i : Int) + n ≤ t.length := by omega
  simp -implicitDefEqProofs (maxSteps := 1000000) (disch := first | omega | rfl) [m57b0, sl20, ob20, box, rowv, hn, c1, c2, c3, c4, c5, c6, h40, KS, getS, getO, gS, zipN, dropW, takeW, wds, stvs, sea, seaL, refs, refsL, refsEls, refsO, isPureEls, isPures, isPure, noExt, noExts, noExtEls, cellsL, ren, renL, renEls, keepO, keepS, keysO, refsS, refsOB, cntN, headC, setS, boxO, row, putW, putB, putB1, eNl, newOs, frz, renO, noExtO, zps, zp, two32, w64, -getElem?_pos]
set_option maxHeartbeats 4000000 in
theorem end20 (N d : Nat) (g : SL → OB → Option R) (r : List PV) (t : List (List PV)) (L : Int) (z8 : List PV) (v i n : Nat) (hn : n < 64) (hi : i + n = t.length) :
    m57b0 (sem tab N d) N [] g (sl20 v i n) (ob20 [.blob 8 z8, .e true, .i .i64 0] r L t v) = some (.agg [.blob 8 r, .l true (t.drop i), .i .i64 L], []) := by
  have c1 : ¬ (64 ≤ (n : Int)) := by omega
  have c2 : ¬ (64 ≤ n) := by omega
  have c4 : i + n ≤ t.length := by omega
  have ht : List.take n (List.drop i t) = List.drop i t := List.take_of_length_le (by simp; omega)
  simp -implicitDefEqProofs (maxSteps := 1000000) (disch := first | omega | rfl) [m57b0, sl20, ob20, box, rowv, hn, c1, c2, c4, ht, KS, getS, getO, gS, zipN, dropW, takeW, wds, stvs, sea, seaL, refs, refsL, refsEls, refsO, isPureEls, isPures, isPure, noExt, noExts, noExtEls, cellsL, ren, renL, renEls, keepO, keepS, keysO, refsS, refsOB, cntN, headC, setS, boxO, row, putW, putB, putB1, eNl, newOs, frz, renO, noExtO, zps, zp, two32, w64, -getElem?_pos]
theorem loop20 (T : List Int) (L : Int) (z8 : List PV) (v : Nat) (hb : ∀ n ∈ T, 0 ≤ n ∧ n ≤ 255) : ∀ (j i : Nat) (rs : List Int) (M d M' : Nat), i ≤ T.length → T.length - i ≤ 64 * j → rs.length = 8 →
    loopC (m57b0 (sem tab (M + 65) (d + 3)) (M + 65) []) (M' + 1 + j) (sl20 v i (T.length - i)) (ob20 [.blob 8 z8, .e true, .i .i64 0] (wL rs) L (byL T) v) = some (hashV (rounds rs (T.drop i)).1 true (rounds rs (T.drop i)).2 L, []) := by
  intro j
  induction j with
  | zero =>
    intro i rs M d M' hi hj hr
    rw [Nat.add_zero, k_loop, rounds_short (by simp; omega), end20 _ _ _ _ _ _ _ _ _ _ (by omega) (by rw [byL_len]; omega), byL_drop]
    rfl
  | succ j ih =>
    intro i rs M d M' hi hj hr
    rw [show M' + 1 + (j + 1) = (M' + 1 + j) + 1 by omega, k_loop]
    by_cases h : T.length - i < 64
    · rw [rounds_short (by simp; omega), end20 _ _ _ _ _ _ _ _ _ _ (by omega) (by rw [byL_len]; omega), byL_drop]
      rfl
    · rw [step20 M d _ rs T L z8 v i _ hr (by omega) (by omega) hb, rounds_long (by simp; omega), List.drop_drop, show T.length - i - 64 = T.length - (i + 64) by omega]
      exact ih (i + 64) _ M d M' (by omega) (by omega) (rnd_len _ _ hr)
end
section
set_option maxHeartbeats 8000000 in
/-- What is added, in the document. -/
theorem L20 (M d : Nat) (ns xs ys : List Int) (L : Int) (hn : ns.length = 8) (hm : mayB xs.length L = true) (hL : (ys.length : Int) ≤ 1048576 - L) (h : xs.length + ys.length ≤ 57600)
    (hbx : ∀ n ∈ xs, 0 ≤ n ∧ n ≤ 255) (hby : ∀ n ∈ ys, 0 ≤ n ∧ n ≤ 255) :
    sem tab (M + 1000) (d + 4) 57 [hashV ns false xs L, .l false (byL ys)] [] = some (hashV (rounds ns (xs ++ ys)).1 true (rounds ns (xs ++ ys)).2 (L + ys.length), []) := by
  rw [sem_succ tab (M + 1000) (d + 3) 57 m57 rfl]
  have h17 := L17 (M + 1000) (d + 2) ns xs L
  rw [hm] at h17
  have hb : ∀ n ∈ xs ++ ys, 0 ≤ n ∧ n ≤ 255 := fun n hn => by
    rcases List.mem_append.1 hn with h | h
    · exact hbx n h
    · exact hby n h
  have k0 := loop20 (xs ++ ys) (L + ys.length) (List.replicate 8 (.i .u32 0)) 0 hb 900 0 ns (M + 935) d (M + 99) (by omega) (by simp; omega) hn
  have k1 := loop20 (xs ++ ys) (L + ys.length) (List.replicate 8 (.i .u32 0)) 1 hb 900 0 ns (M + 935) d (M + 99) (by omega) (by simp; omega) hn
  rw [List.drop_zero, Nat.sub_zero, List.length_append, ← byL_app] at k0 k1
  have hL0 : 0 ≤ L := by simp [mayB] at hm; exact hm.1
  have hx := byL_len xs
  have hy := byL_len ys
  have fx := flat_by xs
  have wx := allW_by xs
  have fy := flat_by ys
  have wy := allW_by ys
  simp only [hashV_wL] at h17 k0 k1 ⊢
  rw [← hx, ← hy] at h k0 k1
  rw [← hy] at hL ⊢
  generalize byL (rounds ns (xs ++ ys)).2 = q at *
  generalize wL (rounds ns (xs ++ ys)).1 = r2 at *
  generalize byL xs = a at *
  generalize byL ys = b at *
  generalize wL ns = r at *
  generalize hz : List.replicate 8 (PV.i IntKind.u32 0) = zz at *
  have n1 : ¬ ((b.length : Int) > 1048576 - L) := by omega
  have n2 : ¬ (1048576 - L < (b.length : Int)) := by omega
  have p1 : a.length ≤ 4294967296 := by omega
  have p2 : a.length + b.length ≤ 4294967296 := by omega
  have ht : List.take a.length a = a := List.take_length
  by_cases hb : b = []
  · subst hb
    simp only [sl20, ob20, box, rowv, List.append_nil, List.length_nil, Nat.add_zero, Nat.add_assoc] at k0
    rw [show ((0 : Nat) : Int) = 0 from rfl] at k0
    simp only [Int.add_zero] at k0
    have n3 : ¬ (1048576 - L < 0) := by simp only [List.length_nil] at n2; omega
    simp -implicitDefEqProofs (maxSteps := 1000000) (disch := first | omega | rfl) [m57, hz, h17, n1, n2, n3, fx, wx, p1, ht, allW, flatEls, KS, getS, getO, gS, zipN, dropW, takeW, wds, stvs, sea, seaL, refs, refsL, refsEls, refsO, isPureEls, isPures, isPure, noExt, noExts, noExtEls, cellsL, ren, renL, renEls, keepO, keepS, keysO, refsS, refsOB, cntN, headC, setS, boxO, row, putW, putB, putB1, eNl, newOs, frz, renO, noExtO, zps, zp, two32, w64, -getElem?_pos]
    exact k0
  · have p3 : ¬ (a.length + b.length ≤ a.length) := by
      have := List.length_pos_iff.2 hb
      omega
    simp only [sl20, ob20, box, rowv, Nat.add_assoc] at k1
    simp -implicitDefEqProofs (maxSteps := 1000000) (disch := first | omega | rfl) [m57, hz, h17, n1, n2, fx, wx, fy, wy, p1, p2, p3, hb, ht, KS, getS, getO, gS, zipN, dropW, takeW, wds, stvs, sea, seaL, refs, refsL, refsEls, refsO, isPureEls, isPures, isPure, noExt, noExts, noExtEls, cellsL, ren, renL, renEls, keepO, keepS, keysO, refsS, refsOB, cntN, headC, setS, boxO, row, putW, putB, putB1, eNl, newOs, frz, renO, noExtO, zps, zp, two32, w64, -getElem?_pos]
    exact k1
end
section
def sl25 (n : Nat) : SL := [(1, .p 72 0 0 0 none), (2, .p 80 0 0 0 none), (4, .sl 103 0 0 n)]
def ob25 (hc z : List PV) (t : List (List PV)) : OB := [(103, row t 1 true), (72, box hc 10), (80, box [.blob 32 z] 32)]
def sl25r (i n : Nat) : SL := [(2, .p 80 0 0 0 none), (4, .sl 103 1 i n), (6, .p 112 0 0 0 none)]
def ob25r (r z : List PV) (t : List (List PV)) : OB := [(80, box [.blob 32 z] 32), (112, box [.blob 8 r] 8), (103, rowv t 1)]
def sl25a (k : Int) : SL := [(2, .p 80 0 0 0 none), (6, .p 112 0 0 0 none), (7, .p 120 0 0 0 none), (8, .i .i64 k)]
def ob25a (r z o : List PV) : OB := [(80, box [.blob 32 z] 32), (112, box [.blob 8 r] 8), (120, box [.blob 32 o] 32)]
set_option maxHeartbeats 4000000 in
theorem step25c (N d : Nat) (g : SL → OB → Option R) (r z : List PV) (b t : List (List PV)) (L : Int) (h : ((t.length : Int).tmod 64) ≠ 56) (hl : t.length ≤ 4294967295) :
    m56b2 (sem tab N d) N [] g (sl25 t.length) (ob25 [.blob 8 r, .l false b, .i .i64 L] z t) = g (sl25 (t.length + 1)) (ob25 [.blob 8 r, .l false b, .i .i64 L] z (t ++ [[.i .u8 0]])) := by
  have h1 : ((t.length : Int).tmod 64 == 56) = false := by simpa using h
  have h4 : ((t.length : Int).tmod 64 != 56) = true := by simpa using h
  have h3 : ¬ (t.length + 1 ≤ t.length) := by omega
  have h2 : t.length + 1 ≤ 4294967296 := by omega
  have ht : List.take t.length t = t := List.take_length
  simp -implicitDefEqProofs (maxSteps := 1000000) (disch := first | omega | rfl) [m56b2, sl25, ob25, box, h, h1, h2, h3, h4, ht, KS, getS, getO, gS, zipN, dropW, takeW, wds, stvs, sea, seaL, refs, refsL, refsEls, refsO, isPureEls, isPures, isPure, noExt, noExts, noExtEls, cellsL, ren, renL, renEls, keepO, keepS, keysO, refsS, refsOB, cntN, headC, setS, boxO, row, putW, putB, putB1, eNl, newOs, frz, renO, noExtO, zps, zp, two32, w64, -getElem?_pos]
def lenR (L : Int) : List Int := [0, 0, 0, 0, IntKind.u8.wrap ((8 * L).tdiv 16777216), IntKind.u8.wrap (((8 * L).tdiv 65536).tmod 256), IntKind.u8.wrap (((8 * L).tdiv 256).tmod 256), IntKind.u8.wrap ((8 * L).tmod 256)]
set_option maxHeartbeats 4000000 in
theorem mid25c (N d : Nat) (g : SL → OB → Option R) (r z : List PV) (b t : List (List PV)) (L : Int) (hL : 0 ≤ L ∧ L ≤ 1048576) (h : ((t.length : Int).tmod 64) = 56) (hl : t.length ≤ 4294967280) :
    m56b2 (sem tab N d) N [] g (sl25 t.length) (ob25 [.blob 8 r, .l false b, .i .i64 L] z t) = loopC (m56b1 (sem tab N d) N []) N (sl25r 0 (t.length + 8)) (ob25r r z (t ++ byL (lenR L))) := by
  have h4 : ((t.length : Int).tmod 64 != 56) = false := by simpa using h
  have h2 : t.length + 8 ≤ 4294967296 := by omega
  have h3 : ¬ (t.length + 8 ≤ t.length) := by omega
  have ht : List.take t.length t = t := List.take_length
  have w1 : IntKind.i64.wrap (8 * L) = 8 * L := w64 (by omega) (by omega)
  have w2 : IntKind.i64.wrap ((8 * L).tdiv 16777216) = (8 * L).tdiv 16777216 := by rw [Int.tdiv_eq_ediv_of_nonneg (by omega)]; exact w64 (by omega) (by omega)
  have w3 : IntKind.i64.wrap ((8 * L).tdiv 65536) = (8 * L).tdiv 65536 := by rw [Int.tdiv_eq_ediv_of_nonneg (by omega)]; exact w64 (by omega) (by omega)
  have w4 : IntKind.i64.wrap ((8 * L).tdiv 256) = (8 * L).tdiv 256 := by rw [Int.tdiv_eq_ediv_of_nonneg (by omega)]; exact w64 (by omega) (by omega)
  simp -implicitDefEqProofs (maxSteps := 1000000) (disch := first | omega | rfl) [m56b2, sl25, ob25, sl25r, ob25r, rowv, lenR, byL, box, h, h2, h3, h4, ht, w1, w2, w3, w4, KS, getS, getO, gS, zipN, dropW, takeW, wds, stvs, sea, seaL, refs, refsL, refsEls, refsO, isPureEls, isPures, isPure, noExt, noExts, noExtEls, cellsL, ren, renL, renEls, keepO, keepS, keysO, refsS, refsOB, cntN, headC, setS, boxO, row, putW, putB, putB1, eNl, newOs, frz, renO, noExtO, zps, zp, two32, w64, -getElem?_pos]
set_option maxHeartbeats 4000000 in
theorem step25r (M d : Nat) (g : SL → OB → Option R) (rs T : List Int) (z : List PV) (i n : Nat) (hr : rs.length = 8) (hn : 64 ≤ n) (hi : i + n = T.length) (hb : ∀ n ∈ T, 0 ≤ n ∧ n ≤ 255) :
    m56b1 (sem tab (M + 65) (d + 3)) (M + 65) [] g (sl25r i n) (ob25r (wL rs) z (byL T)) = g (sl25r (i + 64) (n - 64)) (ob25r (wL (rnd rs ((T.drop i).take 64))) z (byL T)) := by
  have h40 := L40 M d rs ((T.drop i).take 64) hr (by simp; omega) (fun x hx => hb x (List.mem_of_mem_drop (List.mem_of_mem_take hx)))
  have hl := byL_len T
  have e : List.take 64 (List.drop i (byL T)) = byL ((T.drop i).take 64) := by rw [byL_drop, byL_take]
  rw [← e] at h40
  rw [← hl] at hi
  generalize byL T = t at *
  generalize wL (rnd rs ((T.drop i).take 64)) = r2 at *
  generalize wL rs = r at *
  have c0 : 0 < n := by omega
  have c1 : 64 ≤ (n : Int) := by omega
  have c2 : i + 64 ≤ t.length := by omega
  have c3 : (0 : Int) < n := by omega
  have c4 : i + n ≤ t.length := by omega
  have c5 : (i : Int) + 64 ≤ t.length := by omega
  have c6 : (i : Int) + n ≤ t.length := by omega
  have c7 : (n : Int) > 0 := by omega
  simp -implicitDefEqProofs (maxSteps := 1000000) (disch := first | omega | rfl) [m56b1, sl25r, ob25r, box, rowv, hn, c0, c1, c2, c3, c4, c5, c6, c7, h40, KS, getS, getO, gS, zipN, dropW, takeW, wds, stvs, sea, seaL, refs, refsL, refsEls, refsO, isPureEls, isPures, isPure, noExt, noExts, noExtEls, cellsL, ren, renL, renEls, keepO, keepS, keysO, refsS, refsOB, cntN, headC, setS, boxO, row, putW, putB, putB1, eNl, newOs, frz, renO, noExtO, zps, zp, two32, w64, -getElem?_pos]
set_option maxHeartbeats 4000000 in
theorem mid25r (N d : Nat) (g : SL → OB → Option R) (r z : List PV) (t : List (List PV)) (i : Nat) :
    m56b1 (sem tab N d) N [] g (sl25r i 0) (ob25r r z t) = loopC (m56b0 (sem tab N d) N []) N (sl25a 0) (ob25a r z (List.replicate 32 (.i .u8 0))) := by
  generalize hz : List.replicate 32 (PV.i IntKind.u8 0) = zz at *
  simp -implicitDefEqProofs (maxSteps := 1000000) (disch := first | omega | rfl) [m56b1, sl25r, ob25r, sl25a, ob25a, hz, box, rowv, KS, getS, getO, gS, zipN, dropW, takeW, wds, stvs, sea, seaL, refs, refsL, refsEls, refsO, isPureEls, isPures, isPure, noExt, noExts, noExtEls, cellsL, ren, renL, renEls, keepO, keepS, keysO, refsS, refsOB, cntN, headC, setS, boxO, row, putW, putB, putB1, eNl, newOs, frz, renO, noExtO, zps, zp, two32, w64, -getElem?_pos]
theorem loop25r (T : List Int) (z : List PV) (hb : ∀ n ∈ T, 0 ≤ n ∧ n ≤ 255) : ∀ (j i : Nat) (rs : List Int) (M d M' : Nat), i + 64 * j = T.length → rs.length = 8 →
    loopC (m56b1 (sem tab (M + 65) (d + 3)) (M + 65) []) (M' + 1 + j) (sl25r i (64 * j)) (ob25r (wL rs) z (byL T)) = loopC (m56b0 (sem tab (M + 65) (d + 3)) (M + 65) []) (M + 65) (sl25a 0) (ob25a (wL (rounds rs (T.drop i)).1) z (List.replicate 32 (.i .u8 0))) := by
  intro j
  induction j with
  | zero =>
    intro i rs M d M' hi hr
    rw [Nat.add_zero, k_loop, rounds_short (by simp; omega), Nat.mul_zero, mid25r]
  | succ j ih =>
    intro i rs M d M' hi hr
    rw [show M' + 1 + (j + 1) = (M' + 1 + j) + 1 by omega, k_loop, step25r M d _ rs T z i (64 * (j + 1)) hr (by omega) (by omega) hb, rounds_long (by simp; omega), List.drop_drop, show 64 * (j + 1) - 64 = 64 * j by omega]
    exact ih (i + 64) _ M d M' (by omega) (rnd_len _ _ hr)
end
section
def lenV (L : Int) : Int := IntKind.u64.wrap (IntKind.u64.wrap L * 8)
def lenB (v : Int) (k : Nat) : Int := IntKind.u8.wrap (v.fdiv (2 ^ min (56 - 8 * (k : Int)).toNat IntKind.u64.bits))
set_option maxHeartbeats 4000000 in
theorem mid24e (r z : List PV) (b t : List (List PV)) (L : Int) (h : ((t.length : Int).tmod 64) = 56) :
    ∀ (N d : Nat) (g : SL → OB → Option R), m26b2 (sem tab N d) N [] g (sl24 t.length) (ob24 [.blob 8 r, .l false b, .i .i64 L] z t) = loopC (m26b1 (sem tab N d) N []) N (sl24b t.length (lenV L) 0) (ob24 [.blob 8 r, .l false b, .i .i64 L] z t) := by
  have ht : List.take t.length t = t := List.take_length
  intro N d g
  simp -implicitDefEqProofs (maxSteps := 1000000) (disch := first | omega | rfl) [m26b2, sl24, ob24, sl24b, box, h, ht, KS, getS, getO, gS, zipN, dropW, takeW, wds, stvs, sea, seaL, refs, refsL, refsEls, refsO, isPureEls, isPures, isPure, noExt, noExts, noExtEls, cellsL, ren, renL, renEls, keepO, keepS, keysO, refsS, refsOB, cntN, headC, setS, boxO, row, putW, putB, putB1, eNl, newOs, frz, renO, noExtO, zps, zp, two32, w64, -getElem?_pos]
  rfl
set_option maxHeartbeats 4000000 in
theorem step24e (r z : List PV) (b t : List (List PV)) (L v : Int) (k : Nat) (hk : k < 8) (hl : t.length ≤ 4294967295) :
    ∀ (N d : Nat) (g : SL → OB → Option R), m26b1 (sem tab N d) N [] g (sl24b t.length v k) (ob24 [.blob 8 r, .l false b, .i .i64 L] z t) = g (sl24b (t.length + 1) v (k + 1 : Nat)) (ob24 [.blob 8 r, .l false b, .i .i64 L] z (t ++ [[.i .u8 (lenB v k)]])) := by
  have c1 : (k : Int) < 8 := by omega
  have c2 : ¬ (56 - 8 * (k : Int) < 0) := by omega
  have h2 : t.length + 1 ≤ 4294967296 := by omega
  have h3 : ¬ (t.length + 1 ≤ t.length) := by omega
  have ht : List.take t.length t = t := List.take_length
  have w1 : IntKind.i64.wrap (56 - 8 * (k : Int)) = 56 - 8 * (k : Int) := w64 (by omega) (by omega)
  intro N d g
  simp -implicitDefEqProofs (maxSteps := 1000000) (disch := first | omega | rfl) [m26b1, sl24b, ob24, box, hk, c1, c2, w1, h2, h3, ht, KS, getS, getO, gS, zipN, dropW, takeW, wds, stvs, sea, seaL, refs, refsL, refsEls, refsO, isPureEls, isPures, isPure, noExt, noExts, noExtEls, cellsL, ren, renL, renEls, keepO, keepS, keysO, refsS, refsOB, cntN, headC, setS, boxO, row, putW, putB, putB1, eNl, newOs, frz, renO, noExtO, zps, zp, two32, w64, -getElem?_pos]
  rfl
theorem lenB_eq (L : Int) (hL : 0 ≤ L ∧ L ≤ 1048576) : lenR L = [lenB (lenV L) 0, lenB (lenV L) 1, lenB (lenV L) 2, lenB (lenV L) 3, lenB (lenV L) 4, lenB (lenV L) 5, lenB (lenV L) 6, lenB (lenV L) 7] := by
  have hv : lenV L = 8 * L := by
    unfold lenV
    simp only [IntKind.wrap_u64]; omega
  have e : ∀ k : Nat, k < 8 → lenB (8 * L) k = (8 * L) / (2 ^ (56 - 8 * k)) % 256 := by
    intro k hk
    unfold lenB
    rw [Int.fdiv_eq_ediv_of_nonneg _ (Int.le_of_lt (Int.pow_pos (by omega))), IntKind.wrap_u8, show (56 - 8 * (k : Int)).toNat = 56 - 8 * k by omega, show min (56 - 8 * k) IntKind.u64.bits = 56 - 8 * k from Nat.min_eq_left (by show 56 - 8 * k ≤ 64; omega)]
  rw [hv, e 0 (by omega), e 1 (by omega), e 2 (by omega), e 3 (by omega), e 4 (by omega), e 5 (by omega), e 6 (by omega), e 7 (by omega)]
  simp only [lenR, Int.tdiv_eq_ediv_of_nonneg (show (0 : Int) ≤ 8 * L by omega), IntKind.wrap_u8]
  rw [Int.tmod_eq_emod_of_nonneg (by omega), Int.tmod_eq_emod_of_nonneg (by omega), Int.tmod_eq_emod_of_nonneg (by omega)]
  simp only [List.cons.injEq, and_true]
  refine ⟨?_, ?_, ?_, ?_, ?_, ?_, ?_, ?_⟩ <;> omega
set_option maxHeartbeats 4000000 in
/-- Eight bytes of length behind; then all is rounded. -/
theorem run24e (M d M' : Nat) (rs ts : List Int) (b : List (List PV)) (L : Int) (z : List PV) (hL : 0 ≤ L ∧ L ≤ 1048576) (hr : rs.length = 8) (hl : ts.length ≤ 57500) :
    loopC (m26b1 (sem tab (M + 1000) (d + 5)) (M + 1000) []) (M' + 9) (sl24b ts.length (lenV L) 0) (ob24 [.blob 8 (wL rs), .l false b, .i .i64 L] z (byL ts)) = loopC (m26b0 (sem tab (M + 1000) (d + 5)) (M + 1000) []) (M + 1000) (sl24a (wL (rounds rs (ts ++ lenR L)).1) 0) (ob24a z (List.replicate 32 (.i .u8 0))) := by
  have st : ∀ (k : Nat) (us : List Int) (g : SL → OB → Option R), k < 8 → us.length ≤ 57600 → m26b1 (sem tab (M + 1000) (d + 5)) (M + 1000) [] g (sl24b us.length (lenV L) (k : Nat)) (ob24 [.blob 8 (wL rs), .l false b, .i .i64 L] z (byL us)) = g (sl24b (us ++ [lenB (lenV L) k]).length (lenV L) (k + 1 : Nat)) (ob24 [.blob 8 (wL rs), .l false b, .i .i64 L] z (byL (us ++ [lenB (lenV L) k]))) := by
    intro k us g hk hu
    have h := step24e (wL rs) z b (byL us) L (lenV L) k hk (by rw [byL_len]; omega) (M + 1000) (d + 5) g
    rw [byL_len, byL_app1] at h
    rw [List.length_append]; exact h
  have e : (0 : Int) = ((0 : Nat) : Int) := rfl
  rw [e, show M' + 9 = (M' + 8) + 1 from rfl, k_loop, st 0 _ _ (by omega) (by omega)]
  rw [k_loop, st (0 + 1) _ _ (by omega) (by simp; omega)]
  rw [k_loop, st (0 + 1 + 1) _ _ (by omega) (by simp; omega)]
  rw [k_loop, st (0 + 1 + 1 + 1) _ _ (by omega) (by simp; omega)]
  rw [k_loop, st (0 + 1 + 1 + 1 + 1) _ _ (by omega) (by simp; omega)]
  rw [k_loop, st (0 + 1 + 1 + 1 + 1 + 1) _ _ (by omega) (by simp; omega)]
  rw [k_loop, st (0 + 1 + 1 + 1 + 1 + 1 + 1) _ _ (by omega) (by simp; omega)]
  rw [k_loop, st (0 + 1 + 1 + 1 + 1 + 1 + 1 + 1) _ _ (by omega) (by simp; omega)]
  rw [k_loop]
  have h := mid24b M d (loopC (m26b1 (sem tab (M + 1000) (d + 5)) (M + 1000) []) M') rs (ts ++ lenR L) b L (lenV L) z hr (by rw [List.length_append, show (lenR L).length = 8 from rfl]; omega)
  rw [lenB_eq L hL] at h ⊢
  simp only [List.append_assoc, List.cons_append, List.nil_append, Nat.zero_add, Nat.reduceAdd] at h ⊢
  exact h
end
section
def oB (x : Int) (n : Nat) : Int := IntKind.u8.wrap (x.fdiv (2 ^ min n IntKind.u32.bits))
def oR0 (x : Int) : Int := IntKind.u8.wrap (x.tdiv 16777216)
def oR1 (x : Int) : Int := IntKind.u8.wrap ((x.tdiv 65536).tmod 256)
def oR2 (x : Int) : Int := IntKind.u8.wrap ((x.tdiv 256).tmod 256)
def oR3 (x : Int) : Int := IntKind.u8.wrap (x.tmod 256)
theorem oR_eq (x : Int) (h : 0 ≤ x ∧ x < 4294967296) : oR0 x = oB x 24 ∧ oR1 x = oB x 16 ∧ oR2 x = oB x 8 ∧ oR3 x = IntKind.u8.wrap x := by
  have e : ∀ n : Nat, n ≤ 32 → oB x n = x / 2 ^ n % 256 := by
    intro n hn
    unfold oB
    rw [show min n IntKind.u32.bits = n from Nat.min_eq_left hn, Int.fdiv_eq_ediv_of_nonneg _ (Int.le_of_lt (Int.pow_pos (by omega))), IntKind.wrap_u8]
  rw [e 24 (by omega), e 16 (by omega), e 8 (by omega)]
  simp only [oR0, oR1, oR2, oR3, Int.tdiv_eq_ediv_of_nonneg h.1, IntKind.wrap_u8]
  rw [Int.tmod_eq_emod_of_nonneg (by omega), Int.tmod_eq_emod_of_nonneg (by omega), Int.tmod_eq_emod_of_nonneg (by omega)]
  refine ⟨?_, ?_, ?_, ?_⟩ <;> omega
set_option maxHeartbeats 4000000 in
theorem step24o (r z o : List PV) (k : Nat) (x : Int) (hk : k < 8) (hx : r[k]? = some (.i .u32 x)) (ho : o.length = 32) :
    ∀ (N d : Nat) (g : SL → OB → Option R), m26b0 (sem tab N d) N [] g (sl24a r k) (ob24a z o) = g (sl24a r (k + 1 : Nat)) (ob24a z ((((o.set (4 * k) (.i .u8 (oB x 24))).set (4 * k + 1) (.i .u8 (oB x 16))).set (4 * k + 2) (.i .u8 (oB x 8))).set (4 * k + 3) (.i .u8 (IntKind.u8.wrap x)))) := by
  have c1 : (k : Int) < 8 := by omega
  have c3 : (0 : Int) ≤ k := by omega
  have c4 : (0 : Int) ≤ 4 * (k : Int) := by omega
  have c5 : (0 : Int) ≤ 4 * (k : Int) + 1 := by omega
  have c6 : (0 : Int) ≤ 4 * (k : Int) + 2 := by omega
  have c7 : (0 : Int) ≤ 4 * (k : Int) + 3 := by omega
  have d4 : 4 * (k : Int) < 32 := by omega
  have d5 : 4 * (k : Int) + 1 < 32 := by omega
  have d6 : 4 * (k : Int) + 2 < 32 := by omega
  have d7 : 4 * (k : Int) + 3 < 32 := by omega
  have t4 : (4 * (k : Int)).toNat = 4 * k := by omega
  have t5 : (4 * (k : Int) + 1).toNat = 4 * k + 1 := by omega
  have t6 : (4 * (k : Int) + 2).toNat = 4 * k + 2 := by omega
  have t7 : (4 * (k : Int) + 3).toNat = 4 * k + 3 := by omega
  have b4 : 4 * k < 32 := by omega
  have b5 : 4 * k + 1 < 32 := by omega
  have b6 : 4 * k + 2 < 32 := by omega
  have b7 : 4 * k + 3 < 32 := by omega
  intro N d g
  simp -implicitDefEqProofs (maxSteps := 1000000) (disch := first | omega | rfl) [m26b0, sl24a, ob24a, box, xV, hk, hx, ho, c1, c3, c4, c5, c6, c7, d4, d5, d6, d7, t4, t5, t6, t7, b4, b5, b6, b7, KS, getS, getO, gS, zipN, dropW, takeW, wds, stvs, sea, seaL, refs, refsL, refsEls, refsO, isPureEls, isPures, isPure, noExt, noExts, noExtEls, cellsL, ren, renL, renEls, keepO, keepS, keysO, refsS, refsOB, cntN, headC, setS, boxO, row, putW, putB, putB1, eNl, newOs, frz, renO, noExtO, zps, zp, two32, w64, -getElem?_pos]
  rfl
set_option maxHeartbeats 4000000 in
theorem step25o (r z o : List PV) (k : Nat) (x : Int) (hk : k < 8) (hx : r[k]? = some (.i .u32 x)) (ho : o.length = 32) (hr : 0 ≤ x ∧ x < 4294967296) :
    ∀ (N d : Nat) (g : SL → OB → Option R), m56b0 (sem tab N d) N [] g (sl25a k) (ob25a r z o) = g (sl25a (k + 1 : Nat)) (ob25a r z ((((o.set (4 * k) (.i .u8 (oR0 x))).set (4 * k + 1) (.i .u8 (oR1 x))).set (4 * k + 2) (.i .u8 (oR2 x))).set (4 * k + 3) (.i .u8 (oR3 x)))) := by
  have c1 : (k : Int) < 8 := by omega
  have c3 : (0 : Int) ≤ k := by omega
  have c4 : (0 : Int) ≤ 4 * (k : Int) := by omega
  have c5 : (0 : Int) ≤ 4 * (k : Int) + 1 := by omega
  have c6 : (0 : Int) ≤ 4 * (k : Int) + 2 := by omega
  have c7 : (0 : Int) ≤ 4 * (k : Int) + 3 := by omega
  have d4 : 4 * (k : Int) < 32 := by omega
  have d5 : 4 * (k : Int) + 1 < 32 := by omega
  have d6 : 4 * (k : Int) + 2 < 32 := by omega
  have d7 : 4 * (k : Int) + 3 < 32 := by omega
  have t4 : (4 * (k : Int)).toNat = 4 * k := by omega
  have t5 : (4 * (k : Int) + 1).toNat = 4 * k + 1 := by omega
  have t6 : (4 * (k : Int) + 2).toNat = 4 * k + 2 := by omega
  have t7 : (4 * (k : Int) + 3).toNat = 4 * k + 3 := by omega
  have b4 : 4 * k < 32 := by omega
  have b5 : 4 * k + 1 < 32 := by omega
  have b6 : 4 * k + 2 < 32 := by omega
  have b7 : 4 * k + 3 < 32 := by omega
  have w2 : IntKind.u32.wrap (x.tdiv 16777216) = x.tdiv 16777216 := by rw [Int.tdiv_eq_ediv_of_nonneg hr.1]; exact w32 (by omega) (by omega)
  have w3 : IntKind.u32.wrap (x.tdiv 65536) = x.tdiv 65536 := by rw [Int.tdiv_eq_ediv_of_nonneg hr.1]; exact w32 (by omega) (by omega)
  have w4 : IntKind.u32.wrap (x.tdiv 256) = x.tdiv 256 := by rw [Int.tdiv_eq_ediv_of_nonneg hr.1]; exact w32 (by omega) (by omega)
  intro N d g
  simp -implicitDefEqProofs (maxSteps := 1000000) (disch := first | omega | rfl) [m56b0, sl25a, ob25a, box, oR0, oR1, oR2, oR3, hk, hx, ho, c1, c3, c4, c5, c6, c7, d4, d5, d6, d7, t4, t5, t6, t7, b4, b5, b6, b7, w2, w3, w4, KS, getS, getO, gS, zipN, dropW, takeW, wds, stvs, sea, seaL, refs, refsL, refsEls, refsO, isPureEls, isPures, isPure, noExt, noExts, noExtEls, cellsL, ren, renL, renEls, keepO, keepS, keysO, refsS, refsOB, cntN, headC, setS, boxO, row, putW, putB, putB1, eNl, newOs, frz, renO, noExtO, zps, zp, two32, w64, -getElem?_pos]
set_option maxHeartbeats 4000000 in
theorem end25a (N d : Nat) (g : SL → OB → Option R) (r z o : List PV) : m56b0 (sem tab N d) N [] g (sl25a 8) (ob25a r z o) = some (.agg [.blob 32 o], []) := by
  simp -implicitDefEqProofs (maxSteps := 1000000) (disch := first | omega | rfl) [m56b0, sl25a, ob25a, box, KS, getS, getO, gS, zipN, dropW, takeW, wds, stvs, sea, seaL, refs, refsL, refsEls, refsO, isPureEls, isPures, isPure, noExt, noExts, noExtEls, cellsL, ren, renL, renEls, keepO, keepS, keysO, refsS, refsOB, cntN, headC, setS, boxO, row, putW, putB, putB1, eNl, newOs, frz, renO, noExtO, zps, zp, two32, w64, -getElem?_pos]
theorem loopJ24 (rs : List Int) (hr : rs.length = 8) (hb : ∀ y ∈ rs, 0 ≤ y ∧ y < 4294967296) (z z' : List PV) : ∀ (n k : Nat) (o : List Int), k + n = 8 → o.length = 32 → (∀ y ∈ o, 0 ≤ y ∧ y ≤ 255) → ∃ o' : List Int, o'.length = 32 ∧ (∀ y ∈ o', 0 ≤ y ∧ y ≤ 255) ∧
    (∀ N d M : Nat, loopC (m26b0 (sem tab N d) N []) (M + 1 + n) (sl24a (wL rs) k) (ob24a z (uL o)) = some (.agg [.blob 32 (uL o')], [])) ∧
    ∀ N d M : Nat, loopC (m56b0 (sem tab N d) N []) (M + 1 + n) (sl25a k) (ob25a (wL rs) z' (uL o)) = some (.agg [.blob 32 (uL o')], []) := by
  intro n
  induction n with
  | zero =>
    intro k o hk ho hor
    have : k = 8 := by omega
    subst this
    exact ⟨o, ho, hor, fun N d M => by rw [Nat.add_zero, k_loop]; exact end24a N d _ _ _ _, fun N d M => by rw [Nat.add_zero, k_loop]; exact end25a N d _ _ _ _⟩
  | succ n ih =>
    intro k o hk ho hor
    have hk8 : k < rs.length := by omega
    have hx : (wL rs)[k]? = some (.i .u32 rs[k]) := by rw [wL_get, List.getElem?_eq_getElem hk8]; rfl
    have hrg := hb _ (List.getElem_mem hk8)
    have h1 := step24o (wL rs) z (uL o) k rs[k] (by omega) hx (by rw [uL_len]; exact ho)
    have h2 := step25o (wL rs) z' (uL o) k rs[k] (by omega) hx (by rw [uL_len]; exact ho) hrg
    obtain ⟨e0, e1, e2, e3⟩ := oR_eq rs[k] hrg
    rw [e0, e1, e2, e3] at h2
    rw [uL_set, uL_set, uL_set, uL_set] at h1 h2
    obtain ⟨o', i1, i0, i2, i3⟩ := ih (k + 1) ((((o.set (4 * k) (oB rs[k] 24)).set (4 * k + 1) (oB rs[k] 16)).set (4 * k + 2) (oB rs[k] 8)).set (4 * k + 3) (IntKind.u8.wrap rs[k])) (by omega) (by simpa using ho) (fun y hy => by
      have w8r : ∀ x : Int, 0 ≤ IntKind.u8.wrap x ∧ IntKind.u8.wrap x ≤ 255 := fun x => by rw [IntKind.wrap_u8]; omega
      rcases List.mem_or_eq_of_mem_set hy with hy | rfl
      · rcases List.mem_or_eq_of_mem_set hy with hy | rfl
        · rcases List.mem_or_eq_of_mem_set hy with hy | rfl
          · rcases List.mem_or_eq_of_mem_set hy with hy | rfl
            · exact hor y hy
            · exact w8r _
          · exact w8r _
        · exact w8r _
      · exact w8r _)
    refine ⟨o', i1, i0, fun N d M => ?_, fun N d M => ?_⟩
    · rw [show M + 1 + (n + 1) = (M + 1 + n) + 1 by omega, k_loop, h1]
      exact i2 N d M
    · rw [show M + 1 + (n + 1) = (M + 1 + n) + 1 by omega, k_loop, h2]
      exact i3 N d M
end
section
theorem z24c (rs : List Int) (b : List (List PV)) (L : Int) (z : List PV) : ∀ (n : Nat) (ts : List Int), (ts.length + n) % 64 = 56 → n < 64 → ts.length + n ≤ 57500 → ∀ M d M' : Nat, loopC (m26b2 (sem tab (M + 1000) (d + 5)) (M + 1000) []) (M' + 1 + n) (sl24 ts.length) (ob24 [.blob 8 (wL rs), .l false b, .i .i64 L] z (byL ts)) = loopC (m26b1 (sem tab (M + 1000) (d + 5)) (M + 1000) []) (M + 1000) (sl24b (ts ++ List.replicate n 0).length (lenV L) 0) (ob24 [.blob 8 (wL rs), .l false b, .i .i64 L] z (byL (ts ++ List.replicate n 0))) := by
  intro n
  induction n with
  | zero =>
    intro ts h _ hl M d M'
    have htm : ((ts.length : Int).tmod 64) = 56 := by
      rw [Int.tmod_eq_emod_of_nonneg (by omega)]; omega
    have hv := mid24e (wL rs) z b (byL ts) L (by rw [byL_len]; exact htm) (M + 1000) (d + 5) (loopC (m26b2 (sem tab (M + 1000) (d + 5)) (M + 1000) []) M')
    rw [byL_len] at hv
    rw [Nat.add_zero, k_loop, hv, List.replicate_zero, List.append_nil]
  | succ n ih =>
    intro ts h hn hl M d M'
    have htm : ((ts.length : Int).tmod 64) ≠ 56 := by
      rw [Int.tmod_eq_emod_of_nonneg (by omega)]; omega
    have hy := step24c (M + 1000) (d + 5) (loopC (m26b2 (sem tab (M + 1000) (d + 5)) (M + 1000) []) (M' + 1 + n)) (wL rs) z z b (byL ts) L (by rw [byL_len]; exact htm) (by rw [byL_len]; omega)
    rw [byL_len] at hy
    rw [show M' + 1 + (n + 1) = (M' + 1 + n) + 1 by omega, k_loop, hy, byL_app1]
    have := ih (ts ++ [0]) (by simp only [List.length_append, List.length_singleton]; omega) (by omega) (by simp only [List.length_append, List.length_singleton]; omega) M d M'
    rw [List.append_assoc, show [(0 : Int)] ++ List.replicate n 0 = List.replicate (n + 1) 0 from rfl] at this
    rw [show (ts ++ [(0 : Int)]).length = ts.length + 1 by simp] at this
    exact this
theorem z25c (rs : List Int) (b : List (List PV)) (L : Int) (z : List PV) (hL : 0 ≤ L ∧ L ≤ 1048576) : ∀ (n : Nat) (ts : List Int), (ts.length + n) % 64 = 56 → n < 64 → ts.length + n ≤ 57500 → ∀ N d M' : Nat, loopC (m56b2 (sem tab N d) N []) (M' + 1 + n) (sl25 ts.length) (ob25 [.blob 8 (wL rs), .l false b, .i .i64 L] z (byL ts)) = loopC (m56b1 (sem tab N d) N []) N (sl25r 0 ((ts ++ List.replicate n 0).length + 8)) (ob25r (wL rs) z (byL (ts ++ List.replicate n 0 ++ lenR L))) := by
  intro n
  induction n with
  | zero =>
    intro ts h _ hl N d M'
    have htm : ((ts.length : Int).tmod 64) = 56 := by
      rw [Int.tmod_eq_emod_of_nonneg (by omega)]; omega
    have hv := mid25c N d (loopC (m56b2 (sem tab N d) N []) M') (wL rs) z b (byL ts) L hL (by rw [byL_len]; exact htm) (by rw [byL_len]; omega)
    rw [byL_len, byL_app] at hv
    rw [Nat.add_zero, k_loop, hv, List.replicate_zero, List.append_nil]
  | succ n ih =>
    intro ts h hn hl N d M'
    have htm : ((ts.length : Int).tmod 64) ≠ 56 := by
      rw [Int.tmod_eq_emod_of_nonneg (by omega)]; omega
    have hy := step25c N d (loopC (m56b2 (sem tab N d) N []) (M' + 1 + n)) (wL rs) z b (byL ts) L (by rw [byL_len]; exact htm) (by rw [byL_len]; omega)
    rw [byL_len] at hy
    rw [show M' + 1 + (n + 1) = (M' + 1 + n) + 1 by omega, k_loop, hy, byL_app1]
    have := ih (ts ++ [0]) (by simp only [List.length_append, List.length_singleton]; omega) (by omega) (by simp only [List.length_append, List.length_singleton]; omega) N d M'
    rw [List.append_assoc ts, show [(0 : Int)] ++ List.replicate n 0 = List.replicate (n + 1) 0 from rfl] at this
    rw [show (ts ++ [(0 : Int)]).length = ts.length + 1 by simp] at this
    exact this
theorem lenR_range (L : Int) : ∀ n ∈ lenR L, 0 ≤ n ∧ n ≤ 255 := by
  intro n hn
  simp only [lenR, List.mem_cons, List.not_mem_nil, or_false] at hn
  rcases hn with rfl | rfl | rfl | rfl | rfl | rfl | rfl | rfl <;> first | omega | (rw [IntKind.wrap_u8]; omega)
theorem uL_inj : ∀ {a b : List Int}, uL a = uL b → a = b
  | [], [], _ => rfl
  | [], y :: b, h => by simp [uL] at h
  | x :: a, [], h => by simp [uL] at h
  | x :: a, y :: b, h => by
    simp only [uL, List.map_cons, List.cons.injEq, PV.i.injEq, true_and] at h
    rw [h.1, uL_inj h.2]
set_option maxHeartbeats 4000000 in
/-- The sum of a state, here and there. -/
theorem J24 (ns xs : List Int) (L : Int) (hn : ns.length = 8) (hb : ∀ y ∈ ns, 0 ≤ y ∧ y < 4294967296) (hx : ∀ n ∈ xs, 0 ≤ n ∧ n ≤ 255) : ∃ o : List Int, o.length = 32 ∧ (∀ y ∈ o, 0 ≤ y ∧ y ≤ 255) ∧
    (∀ M d : Nat, sem tab (M + 1000) (d + 6) 26 [hashV ns false xs L] [] = some (.agg [.blob 32 (uL o)], [])) ∧
    ∀ M d : Nat, sem tab (M + 1000) (d + 4) 56 [hashV ns false xs L] [] = some (.agg [.blob 32 (uL o)], []) := by
  by_cases hm : mayB xs.length L = true
  · obtain ⟨hL0, hL1, hx64⟩ : 0 ≤ L ∧ L ≤ 1048576 ∧ xs.length < 64 := by
      simp [mayB] at hm
      obtain ⟨h0, h1, h2⟩ := hm
      rw [Int.tmod_eq_emod_of_nonneg h0] at h2; exact ⟨h0, h1, by omega⟩
    obtain ⟨k, hk, hp⟩ := pad_of (xs ++ [128]).length
    have hT : ∀ n ∈ xs ++ [128] ++ List.replicate k 0 ++ lenR L, 0 ≤ n ∧ n ≤ 255 := by
      intro n hn
      simp only [List.mem_append, List.mem_singleton, List.mem_replicate] at hn
      rcases hn with ((h | h) | h) | h
      · exact hx n h
      · omega
      · omega
      · exact lenR_range L n h
    have hlen : (xs ++ [128] ++ List.replicate k 0 ++ lenR L).length = xs.length + 1 + k + 8 := by
      simp only [List.length_append, List.length_singleton, List.length_replicate, show (lenR L).length = 8 from rfl]
    rw [List.length_append, List.length_singleton] at hp
    obtain ⟨rl, _⟩ := rounds_len _ ns (xs ++ [128] ++ List.replicate k 0 ++ lenR L) (Nat.le_refl _) hn
    have rr := rounds_range _ ns (xs ++ [128] ++ List.replicate k 0 ++ lenR L) (Nat.le_refl _) hn hb hT
    obtain ⟨o, h1, h0, h2, h3⟩ := loopJ24 _ rl rr (List.replicate 32 (.i .u8 0)) (List.replicate 32 (.i .u8 0)) 8 0 (List.replicate 32 0) rfl (by simp) (fun y hy => by rw [(List.mem_replicate.1 hy).2]; omega)
    refine ⟨o, h1, h0, fun M d => ?_, fun M d => ?_⟩
    · have a1 := z24c ns (byL xs) L (List.replicate 32 (.i .u8 0)) k (xs ++ [128]) (by simp only [List.length_append, List.length_singleton]; omega) hk (by simp only [List.length_append, List.length_singleton]; omega) M d (M + 999 - k)
      rw [show M + 999 - k + 1 + k = (M + 991) + 9 by omega] at a1
      have a2 := run24e M d (M + 991) ns (xs ++ [128] ++ List.replicate k 0) (byL xs) L (List.replicate 32 (.i .u8 0)) ⟨hL0, hL1⟩ hn (by simp only [List.length_append, List.length_singleton, List.length_replicate]; omega)
      rw [show M + 1000 = (M + 991) + 9 by omega] at a1 a2 ⊢
      rw [a2] at a1
      have a3 := h2 ((M + 991) + 9) (d + 5) (M + 991)
      rw [show M + 991 + 1 + 8 = (M + 991) + 9 by omega, ← zero32] at a3
      have h2 := a1.trans a3
      rw [sem_succ tab (M + 991 + 9) (d + 5) 26 m26 rfl]
      have h23 := L23 (M + 991 + 9) (d + 4) ns xs L
      rw [hm] at h23
      have h39 := L39 (M + 991 + 9) (d + 4) xs (by omega)
      have hlx := byL_len xs
      rw [← byL_app1] at h2
      rw [List.length_append, ← hlx] at h2
      rw [← hlx] at h39 hx64
      simp only [hashV_wL] at h23 ⊢
      generalize byL xs = a at *
      generalize wL ns = r at *
      generalize hz : List.replicate 32 (PV.i IntKind.u8 0) = zz at *
      have ht : List.take a.length a = a := List.take_length
      have q1 : a.length + 1 ≤ 4294967296 := by omega
      have q2 : ¬ (a.length + 1 ≤ a.length) := by omega
      simp only [sl24, ob24, box, row, List.length_singleton] at h2
      simp -implicitDefEqProofs (maxSteps := 1000000) (disch := first | omega | rfl) [m26, hz, h23, h39, ht, q1, q2, KS, getS, getO, gS, zipN, dropW, takeW, wds, stvs, sea, seaL, refs, refsL, refsEls, refsO, isPureEls, isPures, isPure, noExt, noExts, noExtEls, cellsL, ren, renL, renEls, keepO, keepS, keysO, refsS, refsOB, cntN, headC, setS, boxO, row, putW, putB, putB1, eNl, newOs, frz, renO, noExtO, zps, zp, two32, w64, -getElem?_pos]
      exact h2
    · have a1 := z25c ns (byL xs) L (List.replicate 32 (.i .u8 0)) ⟨hL0, hL1⟩ k (xs ++ [128]) (by simp only [List.length_append, List.length_singleton]; omega) hk (by simp only [List.length_append, List.length_singleton]; omega) (M + 935 + 65) (d + 3) (M + 999 - k)
      rw [show M + 999 - k + 1 + k = M + 935 + 65 by omega] at a1
      have hj : (xs ++ [128] ++ List.replicate k 0).length + 8 = 64 * ((xs.length + 1 + k + 8) / 64) := by
        simp only [List.length_append, List.length_singleton, List.length_replicate]; omega
      have a2 := loop25r (xs ++ [128] ++ List.replicate k 0 ++ lenR L) (List.replicate 32 (.i .u8 0)) hT ((xs.length + 1 + k + 8) / 64) 0 ns (M + 935) d (M + 999 - (xs.length + 1 + k + 8) / 64) (by rw [hlen]; omega) hn
      rw [show M + 999 - (xs.length + 1 + k + 8) / 64 + 1 + (xs.length + 1 + k + 8) / 64 = M + 935 + 65 by omega, List.drop_zero, ← hj] at a2
      have a3 := h3 (M + 935 + 65) (d + 3) (M + 991)
      rw [show M + 991 + 1 + 8 = M + 935 + 65 by omega, ← zero32] at a3
      have h3 := (a1.trans a2).trans a3
      rw [show M + 1000 = M + 935 + 65 by omega]
      rw [sem_succ tab (M + 935 + 65) (d + 3) 56 m56 rfl]
      have h17 := L17 (M + 935 + 65) (d + 2) ns xs L
      rw [hm] at h17
      have hlx := byL_len xs
      have fx := flat_by xs
      have wx := allW_by xs
      rw [← byL_app1] at h3
      rw [List.length_append, ← hlx] at h3
      rw [← hlx] at hx64
      simp only [hashV_wL] at h17 ⊢
      generalize byL xs = a at *
      generalize wL ns = r at *
      generalize hz : List.replicate 32 (PV.i IntKind.u8 0) = zz at *
      have ht : List.take a.length a = a := List.take_length
      have q0 : a.length ≤ 4294967296 := by omega
      have q1 : a.length + 1 ≤ 4294967296 := by omega
      have q2 : ¬ (a.length + 1 ≤ a.length) := by omega
      simp only [sl25, ob25, box, row, List.length_singleton] at h3
      simp -implicitDefEqProofs (maxSteps := 1000000) (disch := first | omega | rfl) [m56, hz, h17, fx, wx, ht, q0, q1, q2, KS, getS, getO, gS, zipN, dropW, takeW, wds, stvs, sea, seaL, refs, refsL, refsEls, refsO, isPureEls, isPures, isPure, noExt, noExts, noExtEls, cellsL, ren, renL, renEls, keepO, keepS, keysO, refsS, refsOB, cntN, headC, setS, boxO, row, putW, putB, putB1, eNl, newOs, frz, renO, noExtO, zps, zp, two32, w64, -getElem?_pos]
      exact h3
  · have hm : mayB xs.length L = false := by simpa using hm
    obtain ⟨o, ho, h24⟩ := E24 ns xs L hn
    have : uL o = List.replicate 32 (.i .u8 0) := by
      have h := h24 0 0
      rw [sem_succ tab (0 + 1000) (0 + 5) 26 m26 rfl] at h
      have h23 := L23 (0 + 1000) (0 + 4) ns xs L
      rw [hm] at h23
      simp only [hashV_wL] at h23 h
      generalize byL xs = a at *
      generalize wL ns = r at *
      generalize hz : List.replicate 32 (PV.i IntKind.u8 0) = zz at *
      simp -implicitDefEqProofs (maxSteps := 1000000) (disch := first | omega | rfl) [m26, hz, h23, KS, getS, getO, gS, zipN, dropW, takeW, wds, stvs, sea, seaL, refs, refsL, refsEls, refsO, isPureEls, isPures, isPure, noExt, noExts, noExtEls, cellsL, ren, renL, renEls, keepO, keepS, keysO, refsS, refsOB, cntN, headC, setS, boxO, row, putW, putB, putB1, eNl, newOs, frz, renO, noExtO, zps, zp, two32, w64, -getElem?_pos] at h
      exact h.symm
    have ho0 : o = List.replicate 32 0 := by
      have e : uL o = uL (List.replicate 32 0) := by rw [this, zero32]
      exact uL_inj e
    refine ⟨o, ho, fun y hy => by rw [ho0] at hy; rw [(List.mem_replicate.1 hy).2]; omega, h24, fun M d => ?_⟩
    rw [this, sem_succ tab (M + 1000) (d + 3) 56 m56 rfl]
    have h17 := L17 (M + 1000) (d + 2) ns xs L
    rw [hm] at h17
    simp only [hashV_wL] at h17 ⊢
    generalize byL xs = a at *
    generalize wL ns = r at *
    generalize hz : List.replicate 32 (PV.i IntKind.u8 0) = zz at *
    simp -implicitDefEqProofs (maxSteps := 1000000) (disch := first | omega | rfl) [m56, hz, h17, KS, getS, getO, gS, zipN, dropW, takeW, wds, stvs, sea, seaL, refs, refsL, refsEls, refsO, isPureEls, isPures, isPure, noExt, noExts, noExtEls, cellsL, ren, renL, renEls, keepO, keepS, keysO, refsS, refsOB, cntN, headC, setS, boxO, row, putW, putB, putB1, eNl, newOs, frz, renO, noExtO, zps, zp, two32, w64, -getElem?_pos]
theorem L25 (M d : Nat) (ns xs : List Int) (L : Int) (hn : ns.length = 8) (hb : ∀ y ∈ ns, 0 ≤ y ∧ y < 4294967296) (hx : ∀ n ∈ xs, 0 ≤ n ∧ n ≤ 255) : sem tab (M + 1000) (d + 4) 56 [hashV ns false xs L] [] = some (.agg [.blob 32 (uL (endI ns xs L))], []) := by
  obtain ⟨o, h1, h0, h2, h3⟩ := J24 ns xs L hn hb hx
  have e := (h2 0 0).symm.trans (L24 0 0 ns xs L hn)
  have e : uL o = uL (endI ns xs L) := by
    injection e with e; injection e with e; injection e with e; injection e with e; injection e with e
  rw [← e]; exact h3 M d
theorem endI_range (ns xs : List Int) (L : Int) (hn : ns.length = 8) (hb : ∀ y ∈ ns, 0 ≤ y ∧ y < 4294967296) (hx : ∀ n ∈ xs, 0 ≤ n ∧ n ≤ 255) : ∀ y ∈ endI ns xs L, 0 ≤ y ∧ y ≤ 255 := by
  obtain ⟨o, h1, h0, h2, h3⟩ := J24 ns xs L hn hb hx
  have e := (h2 0 0).symm.trans (L24 0 0 ns xs L hn)
  have e : uL o = uL (endI ns xs L) := by
    injection e with e; injection e with e; injection e with e; injection e with e; injection e with e
  rw [← uL_inj e]; exact h0
end
section
theorem nFirst_range : ∀ y ∈ nFirst, 0 ≤ y ∧ y < 4294967296 := by decide
theorem rounds_rest : ∀ (n : Nat) (rs xs : List Int), xs.length ≤ n → (∀ n ∈ xs, 0 ≤ n ∧ n ≤ 255) → ∀ y ∈ (rounds rs xs).2, 0 ≤ y ∧ y ≤ 255 := by
  intro n
  induction n with
  | zero =>
    intro rs xs h hb
    rw [rounds_short (by omega)]; exact hb
  | succ n ih =>
    intro rs xs h hb
    by_cases hx : xs.length < 64
    · rw [rounds_short hx]; exact hb
    · rw [rounds_long hx]
      exact ih _ _ (by simp; omega) (fun n hn => hb n (List.mem_of_mem_drop hn))
set_option maxHeartbeats 4000000 in
/-- The document's sum of bytes. -/
theorem L27 (M d : Nat) (ys : List Int) (h : ys.length ≤ 57600) (hb : ∀ n ∈ ys, 0 ≤ n ∧ n ≤ 255) : sem tab (M + 1000) (d + 5) 46 [.l false (byL ys)] [] = some (.agg [.blob 32 (uL (endI (rounds nFirst ys).1 (rounds nFirst ys).2 ys.length))], []) := by
  rw [sem_succ tab (M + 1000) (d + 4) 46 m46 rfl]
  have h22 := L22 (M + 1000) (d + 3)
  have h20 := L20 M d nFirst [] ys 0 rfl may_zero (by omega) (by simpa using h) (by simp) hb
  rw [List.nil_append, Int.zero_add] at h20
  have hb2 : ∀ n ∈ (rounds nFirst ys).2, 0 ≤ n ∧ n ≤ 255 := rounds_rest _ nFirst ys (Nat.le_refl _) hb
  have h25 := L25 M d (rounds nFirst ys).1 (rounds nFirst ys).2 ys.length (rounds_len _ nFirst ys (Nat.le_refl _) rfl).1 (rounds_range _ nFirst ys (Nat.le_refl _) rfl nFirst_range hb) hb2
  have hy := byL_len ys
  have hb : byL [] = [] := rfl
  rw [← hy] at h h20 h25 ⊢
  have n1 : ¬ ((byL ys).length : Int) > 1048576 := by omega
  have n2 : ¬ 1048576 < ((byL ys).length : Int) := by omega
  simp only [hashV_wL, hb] at h22 h20 h25 ⊢
  generalize byL (rounds nFirst ys).2 = q at *
  generalize wL (rounds nFirst ys).1 = r2 at *
  generalize wL nFirst = r at *
  generalize uL (endI _ _ _) = o at *
  generalize byL ys = b at *
  generalize hz : List.replicate 32 (PV.i IntKind.u8 0) = zz at *
  simp -implicitDefEqProofs (maxSteps := 1000000) (disch := first | omega | rfl) [m46, hz, h22, h20, h25, n1, n2, KS, getS, getO, gS, zipN, dropW, takeW, wds, stvs, sea, seaL, refs, refsL, refsEls, refsO, isPureEls, isPures, isPure, noExt, noExts, noExtEls, cellsL, ren, renL, renEls, keepO, keepS, keysO, refsS, refsOB, cntN, headC, setS, boxO, row, putW, putB, putB1, eNl, newOs, frz, renO, noExtO, zps, zp, two32, w64, -getElem?_pos]
theorem L27s (M d : Nat) (ys : List Int) (h : ys.length ≤ 57600) (hb : ∀ n ∈ ys, 0 ≤ n ∧ n ≤ 255) : sem tab (M + 1000) (d + 5) 46 [.l false (byL ys)] [] = some (.agg [.blob 32 (uL (sumI ys))], []) := L27 M d ys h hb
theorem sumI_range (ys : List Int) (hb : ∀ n ∈ ys, 0 ≤ n ∧ n ≤ 255) : ∀ n ∈ sumI ys, 0 ≤ n ∧ n ≤ 255 :=
  endI_range _ _ _ (rounds_len _ nFirst ys (Nat.le_refl _) rfl).1 (rounds_range _ nFirst ys (Nat.le_refl _) rfl nFirst_range hb) (rounds_rest _ nFirst ys (Nat.le_refl _) hb)
theorem app_range {xs ys : List Int} (hx : ∀ n ∈ xs, 0 ≤ n ∧ n ≤ 255) (hy : ∀ n ∈ ys, 0 ≤ n ∧ n ≤ 255) : ∀ n ∈ xs ++ ys, 0 ≤ n ∧ n ≤ 255 := fun n hn => by
  rcases List.mem_append.1 hn with h | h
  · exact hx n h
  · exact hy n h
theorem padI_range (xs : List Int) (c : Int) : ∀ n ∈ padI xs c, 0 ≤ n ∧ n ≤ 255 := fun n hn => by
  obtain ⟨x, _, rfl⟩ := List.mem_map.1 hn
  rw [xorI, IntKind.wrap_u8]; omega
def sl35 (n : Nat) : SL := [(3, .sl 95 0 0 n)]
def ob35 (t : List (List PV)) : OB := [(95, row t 1 true)]
set_option maxHeartbeats 4000000 in
theorem step35 (N d : Nat) (g : SL → OB → Option R) (t : List (List PV)) (h : t.length < 64) : m59b0 (sem tab N d) N [] g (sl35 t.length) (ob35 t) = g (sl35 (t.length + 1)) (ob35 (t ++ [[.i .u8 0]])) := by
  have c1 : (t.length : Int) < 64 := by omega
  have h2 : t.length + 1 ≤ 4294967296 := by omega
  have h3 : ¬ (t.length + 1 ≤ t.length) := by omega
  have ht : List.take t.length t = t := List.take_length
  simp -implicitDefEqProofs (maxSteps := 1000000) (disch := first | omega | rfl) [m59b0, sl35, ob35, h, c1, h2, h3, ht, KS, getS, getO, gS, zipN, dropW, takeW, wds, stvs, sea, seaL, refs, refsL, refsEls, refsO, isPureEls, isPures, isPure, noExt, noExts, noExtEls, cellsL, ren, renL, renEls, keepO, keepS, keysO, refsS, refsOB, cntN, headC, setS, boxO, row, putW, putB, putB1, eNl, newOs, frz, renO, noExtO, zps, zp, two32, w64, -getElem?_pos]
set_option maxHeartbeats 4000000 in
theorem end35 (N d : Nat) (g : SL → OB → Option R) (t : List (List PV)) (h : t.length = 64) : m59b0 (sem tab N d) N [] g (sl35 t.length) (ob35 t) = some (.sl 0 0 0 64, [row t 1 true]) := by
  have ht : List.take 64 t = t := List.take_of_length_le (by omega)
  simp -implicitDefEqProofs (maxSteps := 1000000) (disch := first | omega | rfl) [m59b0, sl35, ob35, h, ht, KS, getS, getO, gS, zipN, dropW, takeW, wds, stvs, sea, seaL, refs, refsL, refsEls, refsO, isPureEls, isPures, isPure, noExt, noExts, noExtEls, cellsL, ren, renL, renEls, keepO, keepS, keysO, refsS, refsOB, cntN, headC, setS, boxO, row, putW, putB, putB1, eNl, newOs, frz, renO, noExtO, zps, zp, two32, w64, -getElem?_pos]
theorem loop35 : ∀ (n : Nat) (ts : List Int), ts.length + n = 64 → ∀ N d M : Nat, loopC (m59b0 (sem tab N d) N []) (M + 1 + n) (sl35 ts.length) (ob35 (byL ts)) = some (.sl 0 0 0 64, [row (byL (ts ++ List.replicate n 0)) 1 true]) := by
  intro n
  induction n with
  | zero =>
    intro ts h N d M
    have := end35 N d (loopC (m59b0 (sem tab N d) N []) M) (byL ts) (by rw [byL_len]; omega)
    rw [byL_len] at this
    rw [Nat.add_zero, k_loop, this, List.replicate_zero, List.append_nil]
  | succ n ih =>
    intro ts h N d M
    have hy := step35 N d (loopC (m59b0 (sem tab N d) N []) (M + 1 + n)) (byL ts) (by rw [byL_len]; omega)
    rw [byL_len] at hy
    rw [show M + 1 + (n + 1) = (M + 1 + n) + 1 by omega, k_loop, hy, byL_app1]
    have := ih (ts ++ [0]) (by simp; omega) N d M
    rw [List.append_assoc, show [(0 : Int)] ++ List.replicate n 0 = List.replicate (n + 1) 0 from rfl] at this
    rw [show (ts ++ [(0 : Int)]).length = ts.length + 1 by simp] at this
    exact this
set_option maxHeartbeats 4000000 in
/-- The document's block of a key. -/
theorem L35 (M d : Nat) (xs : List Int) (h : xs.length ≤ 57600) (hb : ∀ n ∈ xs, 0 ≤ n ∧ n ≤ 255) : sem tab (M + 1000) (d + 6) 59 [.l false (byL xs)] [] = some (.sl 0 0 0 64, [row (byL (blockI xs)) 1 true]) := by
  rw [sem_succ tab (M + 1000) (d + 5) 59 m59 rfl]
  have hlx := byL_len xs
  have wx := allW_by xs
  have fx := flat_by xs
  have e35 : @m59b1 = @m59b0 := rfl
  by_cases f : 64 < xs.length
  · have h27 := L27s M d xs h hb
    have h := loop35 32 (sumI xs) (by rw [sumI_len]) (M + 1000) (d + 5) (M + 967)
    have hB : blockI xs = sumI xs ++ List.replicate 32 0 := by rw [blockI, if_pos f]
    rw [← hB, sumI_len] at h
    have hu := uL_by (sumI xs)
    have hul := uL_len (sumI xs)
    have hsl := byL_len (sumI xs)
    rw [sumI_len] at hul hsl
    have ws := allW_by (sumI xs)
    have fs := flat_by (sumI xs)
    rw [← hlx] at f
    generalize byL (blockI xs) = B at *
    generalize byL (sumI xs) = s at *
    generalize uL (sumI xs) = u at *
    generalize byL xs = a at *
    have f2 : (a.length : Int) > 64 := by omega
    have f3 : 64 < (a.length : Int) := by omega
    have p1 : a.length ≤ 4294967296 := by omega
    have hts : List.take 32 s = s := List.take_of_length_le (by omega)
    have htu : List.take 32 u = u := List.take_of_length_le (by omega)
    generalize hz : List.replicate 32 (PV.i IntKind.u8 0) = zz at *
    simp only [sl35, ob35, row, Nat.add_assoc] at h
    simp -implicitDefEqProofs (maxSteps := 1000000) (disch := first | omega | rfl) [m59, hz, h27, f, f2, f3, p1, wx, fx, hu, hul, hsl, hts, htu, ws, fs, k_slcA, k_slB, k_cont_bs, KS, getS, getO, gS, zipN, dropW, takeW, wds, stvs, sea, seaL, refs, refsL, refsEls, refsO, isPureEls, isPures, isPure, noExt, noExts, noExtEls, cellsL, ren, renL, renEls, keepO, keepS, keysO, refsS, refsOB, cntN, headC, setS, boxO, row, putW, putB, putB1, eNl, newOs, frz, renO, noExtO, zps, zp, two32, w64, -getElem?_pos]
    exact h
  · have h := loop35 (64 - xs.length) xs (by omega) (M + 1000) (d + 5) (M + 999 - (64 - xs.length))
    have hB : blockI xs = xs ++ List.replicate (64 - xs.length) 0 := by rw [blockI, if_neg f]
    rw [← hB, show M + 999 - (64 - xs.length) + 1 + (64 - xs.length) = M + 1000 by omega, ← e35, ← hlx] at h
    rw [← hlx] at f
    generalize byL (blockI xs) = B at *
    generalize byL xs = a at *
    have f2 : ¬ ((a.length : Int) > 64) := by omega
    have f3 : ¬ (64 < (a.length : Int)) := by omega
    have p1 : a.length ≤ 4294967296 := by omega
    have ht : List.take a.length a = a := List.take_length
    simp only [sl35, ob35, row] at h
    simp -implicitDefEqProofs (maxSteps := 1000000) (disch := first | omega | rfl) [m59, f, f2, f3, p1, wx, fx, ht, KS, getS, getO, gS, zipN, dropW, takeW, wds, stvs, sea, seaL, refs, refsL, refsEls, refsO, isPureEls, isPures, isPure, noExt, noExts, noExtEls, cellsL, ren, renL, renEls, keepO, keepS, keysO, refsS, refsOB, cntN, headC, setS, boxO, row, putW, putB, putB1, eNl, newOs, frz, renO, noExtO, zps, zp, two32, w64, -getElem?_pos]
    exact h
end
section
def sl42 (c k : Int) : SL := [(1, .i .u8 c), (5, .sl 128 0 0 64), (6, .i .i64 k)]
def ob42 (t : List (List PV)) : OB := [(128, row t 1 true)]
set_option maxHeartbeats 4000000 in
theorem step42 (N d : Nat) (g : SL → OB → Option R) (t : List (List PV)) (c x : Int) (k : Nat) (hk : k < 64) (hl : t.length = 64) (ht : t[k]? = some [.i .u8 x]) :
    m47b0 (sem tab N d) N [] g (sl42 c k) (ob42 t) = g (sl42 c (k + 1 : Nat)) (ob42 (t.set k [.i .u8 (xorI c x)])) := by
  have c1 : (k : Int) < 64 := by omega
  have c3 : (0 : Int) ≤ k := by omega
  simp -implicitDefEqProofs (maxSteps := 1000000) (disch := first | omega | rfl) [m47b0, sl42, ob42, hk, c1, c3, hl, ht, KS, getS, getO, gS, zipN, dropW, takeW, wds, stvs, sea, seaL, refs, refsL, refsEls, refsO, isPureEls, isPures, isPure, noExt, noExts, noExtEls, cellsL, ren, renL, renEls, keepO, keepS, keysO, refsS, refsOB, cntN, headC, setS, boxO, row, putW, putB, putB1, eNl, newOs, frz, renO, noExtO, zps, zp, two32, w64, -getElem?_pos]
  rfl
set_option maxHeartbeats 4000000 in
theorem end42 (N d : Nat) (g : SL → OB → Option R) (t : List (List PV)) (c : Int) (hl : t.length = 64) :
    m47b0 (sem tab N d) N [] g (sl42 c 64) (ob42 t) = some (.sl 0 0 0 64, [row t 1 true]) := by
  have ht : List.take 64 t = t := List.take_of_length_le (by omega)
  simp -implicitDefEqProofs (maxSteps := 1000000) (disch := first | omega | rfl) [m47b0, sl42, ob42, hl, ht, KS, getS, getO, gS, zipN, dropW, takeW, wds, stvs, sea, seaL, refs, refsL, refsEls, refsO, isPureEls, isPures, isPure, noExt, noExts, noExtEls, cellsL, ren, renL, renEls, keepO, keepS, keysO, refsS, refsOB, cntN, headC, setS, boxO, row, putW, putB, putB1, eNl, newOs, frz, renO, noExtO, zps, zp, two32, w64, -getElem?_pos]
theorem loop42 (bs : List Int) (hb : bs.length = 64) (c : Int) : ∀ (n k : Nat), k + n = 64 → ∀ N d M : Nat, loopC (m47b0 (sem tab N d) N []) (M + 1 + n) (sl42 c k) (ob42 (byL ((bs.take k).map (xorI c) ++ bs.drop k))) = some (.sl 0 0 0 64, [row (byL (bs.map (xorI c))) 1 true]) := by
  intro n
  induction n with
  | zero =>
    intro k hk N d M
    have : k = 64 := by omega
    subst this
    have e : (bs.take 64).map (xorI c) ++ bs.drop 64 = bs.map (xorI c) := by rw [List.take_of_length_le (by omega), List.drop_of_length_le (by omega), List.append_nil]
    rw [Nat.add_zero, k_loop, e, show ((64 : Nat) : Int) = 64 from rfl, end42 _ _ _ _ _ (by rw [byL_len, List.length_map, hb])]
  | succ n ih =>
    intro k hk N d M
    have hkb : k < bs.length := by omega
    have hl : ((bs.take k).map (xorI c) ++ bs.drop k).length = 64 := by simp; omega
    have gx : ((bs.take k).map (xorI c) ++ bs.drop k)[k]? = some bs[k] := by
      have hl' : ((bs.take k).map (xorI c)).length = k := by simp; omega
      rw [List.getElem?_append_right (by omega), hl', Nat.sub_self, List.getElem?_drop, Nat.add_zero, List.getElem?_eq_getElem hkb]
    rw [show M + 1 + (n + 1) = (M + 1 + n) + 1 by omega, k_loop, step42 N d _ _ c bs[k] k (by omega) (by rw [byL_len]; exact hl) (by rw [byL_get, gx]; rfl), byL_set, set_map hkb]
    exact ih (k + 1) (by omega) N d M
set_option maxHeartbeats 4000000 in
/-- A block padded. -/
theorem L42 (M d : Nat) (xs : List Int) (c : Int) (h : xs.length ≤ 57600) (hb : ∀ n ∈ xs, 0 ≤ n ∧ n ≤ 255) : sem tab (M + 1000) (d + 7) 47 [.l false (byL xs), .i .u8 c] [] = some (.sl 0 0 0 64, [row (byL (padI xs c)) 1 true]) := by
  rw [sem_succ tab (M + 1000) (d + 6) 47 m47 rfl]
  have h31 := L35 M d xs h hb
  have hl := blockI_len xs
  have h := loop42 (blockI xs) hl c 64 0 rfl (M + 1000) (d + 6) (M + 935)
  rw [List.take_zero, List.map_nil, List.nil_append, List.drop_zero] at h
  change _ = some (PV.sl 0 0 0 64, [row (byL (padI xs c)) 1 true]) at h
  have hbl := byL_len (blockI xs)
  rw [hl] at hbl
  have fb := flat_by (blockI xs)
  have wb := allW_by (blockI xs)
  generalize byL (padI xs c) = p at *
  generalize byL (blockI xs) = b at *
  generalize byL xs = a at *
  have ht : List.take 64 b = b := List.take_of_length_le (by omega)
  simp only [sl42, ob42, row] at h
  simp -implicitDefEqProofs (maxSteps := 1000000) (disch := first | omega | rfl) [m47, h31, hbl, fb, wb, ht, KS, getS, getO, gS, zipN, dropW, takeW, wds, stvs, sea, seaL, refs, refsL, refsEls, refsO, isPureEls, isPures, isPure, noExt, noExts, noExtEls, cellsL, ren, renL, renEls, keepO, keepS, keysO, refsS, refsOB, cntN, headC, setS, boxO, row, putW, putB, putB1, eNl, newOs, frz, renO, noExtO, zps, zp, two32, w64, -getElem?_pos]
  exact h
set_option maxHeartbeats 8000000 in
/-- The document's tag. -/
theorem L36 (M d : Nat) (xs ys : List Int) (hx : xs.length ≤ 57000) (hy : ys.length ≤ 57000) (hbx : ∀ n ∈ xs, 0 ≤ n ∧ n ≤ 255) (hby : ∀ n ∈ ys, 0 ≤ n ∧ n ≤ 255) : sem tab (M + 1000) (d + 8) 30 [.l false (byL xs), .l false (byL ys)] [] = some (.agg [.blob 32 (uL (tagI xs ys))], []) := by
  rw [sem_succ tab (M + 1000) (d + 7) 30 m30 rfl]
  have h1 := L42 M d xs 54 (by omega) hbx
  have h2 := L42 M d xs 92 (by omega) hbx
  have h3 := L27s M (d + 2) (padI xs 54 ++ ys) (by rw [List.length_append, padI_len]; omega) (app_range (padI_range xs 54) hby)
  have h4 := L27s M (d + 2) (padI xs 92 ++ sumI (padI xs 54 ++ ys)) (by rw [List.length_append, padI_len, sumI_len]; omega) (app_range (padI_range xs 92) (sumI_range _ (app_range (padI_range xs 54) hby)))
  change _ = some (PV.agg [PV.blob 32 (uL (tagI xs ys))], []) at h4
  have hly := byL_len ys
  have hu := uL_by (sumI (padI xs 54 ++ ys))
  have hul := uL_len (sumI (padI xs 54 ++ ys))
  have hsl := byL_len (sumI (padI xs 54 ++ ys))
  rw [sumI_len] at hul hsl
  have ws := allW_by (sumI (padI xs 54 ++ ys))
  have fs := flat_by (sumI (padI xs 54 ++ ys))
  have wy := allW_by ys
  have fy := flat_by ys
  have hp1 := byL_len (padI xs 54)
  have hp2 := byL_len (padI xs 92)
  rw [padI_len] at hp1 hp2
  rw [← byL_app] at h3 h4
  rw [← hly] at hy
  generalize byL (sumI (padI xs 54 ++ ys)) = s at *
  generalize uL (sumI (padI xs 54 ++ ys)) = u at *
  generalize uL (tagI xs ys) = T at *
  generalize byL (padI xs 54) = p1 at *
  generalize byL (padI xs 92) = p2 at *
  generalize byL xs = a at *
  generalize byL ys = b at *
  generalize hz : List.replicate 32 (PV.i IntKind.u8 0) = zz at *
  have htu : List.take 32 u = u := List.take_of_length_le (by omega)
  have t1 : List.take 64 p1 = p1 := List.take_of_length_le (by omega)
  have t2 : List.take 64 p2 = p2 := List.take_of_length_le (by omega)
  have t4 : List.take 96 (p2 ++ s) = p2 ++ s := List.take_of_length_le (by rw [List.length_append]; omega)
  by_cases hb : b = []
  · subst hb
    simp only [List.append_nil] at h3
    simp -implicitDefEqProofs (maxSteps := 1000000) (disch := first | omega | rfl) [m30, hz, h1, h2, h3, h4, hu, hul, hsl, hp1, hp2, ws, fs, wy, fy, htu, t1, t2, t4, k_slcA, k_slB, k_cont_bs, KS, getS, getO, gS, zipN, dropW, takeW, wds, stvs, sea, seaL, refs, refsL, refsEls, refsO, isPureEls, isPures, isPure, noExt, noExts, noExtEls, cellsL, ren, renL, renEls, keepO, keepS, keysO, refsS, refsOB, cntN, headC, setS, boxO, row, putW, putB, putB1, eNl, newOs, frz, renO, noExtO, zps, zp, two32, w64, -getElem?_pos]
  · have q1 : 64 + b.length ≤ 4294967296 := by omega
    have q2 : ¬ (64 + b.length ≤ 64) := by
      have := List.length_pos_iff.2 hb
      omega
    have t3 : List.take (64 + b.length) (p1 ++ b) = p1 ++ b := List.take_of_length_le (by rw [List.length_append]; omega)
    simp -implicitDefEqProofs (maxSteps := 1000000) (disch := first | omega | rfl) [m30, hz, h1, h2, h3, h4, hu, hul, hsl, hp1, hp2, ws, fs, wy, fy, htu, t1, t2, t3, t4, q1, q2, hb, k_slcA, k_slB, k_cont_bs, KS, getS, getO, gS, zipN, dropW, takeW, wds, stvs, sea, seaL, refs, refsL, refsEls, refsO, isPureEls, isPures, isPure, noExt, noExts, noExtEls, cellsL, ren, renL, renEls, keepO, keepS, keysO, refsS, refsOB, cntN, headC, setS, boxO, row, putW, putB, putB1, eNl, newOs, frz, renO, noExtO, zps, zp, two32, w64, -getElem?_pos]
end
section
/-- The sum of bytes. -/
noncomputable def sumI' (ys : List Int) : List Int := endI (rounds nFirst ys).1 (rounds nFirst ys).2 ys.length
end
section
noncomputable def h0 : List Int := sumI' [0]
end
section
set_option maxHeartbeats 4000000 in
theorem step32 (N d : Nat) (g : SL → OB → Option R) (a b : List (List PV)) (acc x y n : Int) (k : Nat) (hk : (k : Int) < n) (hn : n ≤ 4294967296) (ha : a[k]? = some [.i .u8 x]) (hb : b[k]? = some [.i .u8 y]) :
    m19b0 (sem tab N d) N [] g (sl32 a b acc n k) [] = g (sl32 a b (orX acc x y) n (k + 1 : Nat)) [] := by
  have c3 : (0 : Int) ≤ k := by omega
  have w1 : IntKind.i64.wrap ((k : Int) + 1) = (k : Int) + 1 := w64 (by omega) (by omega)
  simp -implicitDefEqProofs (maxSteps := 1000000) (disch := first | omega | rfl) [m19b0, sl32, hk, c3, ha, hb, w1, KS, getS, getO, gS, zipN, dropW, takeW, wds, stvs, sea, seaL, refs, refsL, refsEls, refsO, isPureEls, isPures, isPure, noExt, noExts, noExtEls, cellsL, ren, renL, renEls, keepO, keepS, keysO, refsS, refsOB, cntN, headC, setS, boxO, row, putW, putB, putB1, eNl, newOs, frz, renO, noExtO, zps, zp, two32, w64, -getElem?_pos]
  rfl
set_option maxHeartbeats 4000000 in
theorem end32 (N d : Nat) (g : SL → OB → Option R) (a b : List (List PV)) (acc n : Int) :
    m19b0 (sem tab N d) N [] g (sl32 a b acc n n) [] = some (.b (acc == 0), []) := by
  simp -implicitDefEqProofs (maxSteps := 1000000) (disch := first | omega | rfl) [m19b0, sl32, KS, getS, getO, gS, zipN, dropW, takeW, wds, stvs, sea, seaL, refs, refsL, refsEls, refsO, isPureEls, isPures, isPure, noExt, noExts, noExtEls, cellsL, ren, renL, renEls, keepO, keepS, keysO, refsS, refsOB, cntN, headC, setS, boxO, row, putW, putB, putB1, eNl, newOs, frz, renO, noExtO, zps, zp, two32, w64, -getElem?_pos]
theorem loop32 (xs ys : List Int) (hl : xs.length = ys.length) (hx : ∀ n ∈ xs, 0 ≤ n ∧ n ≤ 255) (hy : ∀ n ∈ ys, 0 ≤ n ∧ n ≤ 255) (hm : xs.length ≤ 4294967296) : ∀ (n k : Nat) (A : BitVec 8), k + n = xs.length → ∀ N d M : Nat, loopC (m19b0 (sem tab N d) N []) (M + 1 + n) (sl32 (byL xs) (byL ys) A.toNat xs.length k) [] = some (.b (decide (A = 0#8 ∧ xs.drop k = ys.drop k)), []) := by
  intro n
  induction n with
  | zero =>
    intro k A hk N d M
    have : k = xs.length := by omega
    subst this
    rw [Nat.add_zero, k_loop, end32]
    have e1 : xs.drop xs.length = [] := List.drop_length
    have e2 : ys.drop xs.length = [] := by rw [hl]; exact List.drop_length
    rw [e1, e2]
    congr 3
    rw [Bool.eq_iff_iff]
    simp only [beq_iff_eq, decide_eq_true_eq, and_true]
    constructor
    · intro h
      apply BitVec.eq_of_toNat_eq
      simp only [BitVec.toNat_ofNat]; omega
    · rintro rfl; rfl
  | succ n ih =>
    intro k A hk N d M
    have kx : k < xs.length := by omega
    have ky : k < ys.length := by omega
    have gx : xs[k]? = some xs[k] := List.getElem?_eq_getElem kx
    have gy : ys[k]? = some ys[k] := List.getElem?_eq_getElem ky
    rw [show M + 1 + (n + 1) = (M + 1 + n) + 1 by omega, k_loop, step32 N d _ _ _ _ xs[k] ys[k] _ k (by omega) (by omega) (by rw [byL_get, gx]; rfl) (by rw [byL_get, gy]; rfl), orX_law]
    rw [ih (k + 1) _ (by omega)]
    congr 3
    rw [Bool.eq_iff_iff]
    simp only [decide_eq_true_eq]
    rw [or0, ofI_inj (hx _ (List.getElem_mem kx)) (hy _ (List.getElem_mem ky)), List.drop_eq_getElem_cons kx, List.drop_eq_getElem_cons ky, List.cons.injEq, and_assoc]
set_option maxHeartbeats 4000000 in
/-- Two byte rows are the same. -/
theorem L32 (M d : Nat) (xs ys : List Int) (hx : ∀ n ∈ xs, 0 ≤ n ∧ n ≤ 255) (hy : ∀ n ∈ ys, 0 ≤ n ∧ n ≤ 255) (hm : xs.length ≤ 900) : sem tab (M + 1000) (d + 1) 19 [.l false (byL xs), .l false (byL ys)] [] = some (.b (decide (xs = ys)), []) := by
  rw [sem_succ tab (M + 1000) d 19 m19 rfl]
  have hlx := byL_len xs
  have hly := byL_len ys
  by_cases hl : xs.length = ys.length
  · have h := loop32 xs ys hl hx hy (by omega) xs.length 0 0#8 (by omega) (M + 1000) d (M + 999 - xs.length)
    rw [show M + 999 - xs.length + 1 + xs.length = M + 1000 by omega] at h
    simp only [List.drop_zero, true_and] at h
    rw [← hlx] at h hl
    rw [← hly] at hl
    generalize byL xs = a at *
    generalize byL ys = b at *
    simp only [sl32] at h
    have e : (a.length : Int) = b.length := by omega
    have e2 : ((b.length : Int) != b.length) = false := by simp
    rw [hl] at h
    simp -implicitDefEqProofs (maxSteps := 1000000) (disch := first | omega | rfl) [m19, hl, e2, KS, getS, getO, gS, zipN, dropW, takeW, wds, stvs, sea, seaL, refs, refsL, refsEls, refsO, isPureEls, isPures, isPure, noExt, noExts, noExtEls, cellsL, ren, renL, renEls, keepO, keepS, keysO, refsS, refsOB, cntN, headC, setS, boxO, row, putW, putB, putB1, eNl, newOs, frz, renO, noExtO, zps, zp, two32, w64, -getElem?_pos]
    exact h
  · have hne : ¬ xs = ys := fun h => hl (by rw [h])
    rw [decide_eq_false hne]
    rw [← hlx, ← hly] at hl
    generalize byL xs = a at *
    generalize byL ys = b at *
    have e : ¬ (a.length : Int) = b.length := by omega
    have e2 : ((a.length : Int) != b.length) = true := by simp only [bne_iff_ne, ne_eq]; exact e
    simp -implicitDefEqProofs (maxSteps := 1000000) (disch := first | omega | rfl) [m19, hl, e, e2, KS, getS, getO, gS, zipN, dropW, takeW, wds, stvs, sea, seaL, refs, refsL, refsEls, refsO, isPureEls, isPures, isPure, noExt, noExts, noExtEls, cellsL, ren, renL, renEls, keepO, keepS, keysO, refsS, refsOB, cntN, headC, setS, boxO, row, putW, putB, putB1, eNl, newOs, frz, renO, noExtO, zps, zp, two32, w64, -getElem?_pos]
end
section
/-- A frame's numbers, and its tag. -/
structure Fra where
  kind : Int
  user : Int
  sess : Int
  cn : Int
  epoch : Int
  count : Int
  cmd : Int
  arg : Int
  tag : List Int
def frC (f : Fra) : List PV := [.i .i64 f.kind, .i .i64 f.user, .i .u64 f.sess, .i .u64 f.cn, .i .i64 f.epoch, .i .u64 f.count, .i .i64 f.cmd, .i .i64 f.arg, .blob 32 (uL f.tag)]
def z32 : List Int := List.replicate 32 0
def zeF : Fra := ⟨0, 0, 0, 0, 0, 0, 0, 0, z32⟩
/-- What numbers can be there. -/
structure okF (f : Fra) : Prop where
  sess : 0 ≤ f.sess ∧ f.sess < 18446744073709551616
  cn : 0 ≤ f.cn ∧ f.cn < 18446744073709551616
  count : 0 ≤ f.count ∧ f.count < 18446744073709551616
  tag : f.tag.length = 32
  tagr : ∀ x ∈ f.tag, 0 ≤ x ∧ x ≤ 255
theorem z32_len : z32.length = 32 := by simp [z32]
theorem z32_range : ∀ x ∈ z32, 0 ≤ x ∧ x ≤ 255 := fun x hx => by
  unfold z32 at hx
  rw [List.mem_replicate] at hx; omega
theorem okF_ze : okF zeF := ⟨⟨by decide, by decide⟩, ⟨by decide, by decide⟩, ⟨by decide, by decide⟩, z32_len, z32_range⟩
/-- Are two the same? -/
def eqFr (f g : Fra) : Bool := (f.kind == g.kind) && ((f.user == g.user) && ((f.sess == g.sess) && ((f.cn == g.cn) && ((f.epoch == g.epoch) && ((f.count == g.count) && ((f.cmd == g.cmd) && ((f.arg == g.arg) && decide (f.tag = g.tag))))))))
theorem eqFr_iff (f g : Fra) : eqFr f g = true ↔ f = g := by
  obtain ⟨a1, a2, a3, a4, a5, a6, a7, a8, a9⟩ := f
  obtain ⟨b1, b2, b3, b4, b5, b6, b7, b8, b9⟩ := g
  simp only [eqFr, Bool.and_eq_true, beq_iff_eq, decide_eq_true_eq, Fra.mk.injEq]
theorem eqFr_self (f : Fra) : eqFr f f = true := (eqFr_iff f f).2 rfl
theorem eqFr_ne {f g : Fra} (h : f ≠ g) : eqFr f g = false := by
  rw [← Bool.not_eq_true]; exact fun e => h ((eqFr_iff f g).1 e)
/-- The fields of its kind alone. -/
def bareF (f : Fra) : Fra :=
  if f.kind = 0 then ⟨0, f.user, 0, f.cn, 0, 0, 0, 0, z32⟩
  else if f.kind = 1 then ⟨1, 0, f.sess, 0, f.epoch, 0, 0, 0, z32⟩
  else if f.kind = 2 then ⟨2, 0, f.sess, 0, 0, 0, 0, 0, f.tag⟩
  else if f.kind = 3 then ⟨3, 0, f.sess, 0, 0, 0, 0, 0, f.tag⟩
  else if f.kind = 4 then ⟨4, 0, f.sess, 0, 0, f.count, f.cmd, f.arg, f.tag⟩
  else if f.kind = 5 then ⟨5, 0, f.sess, 0, 0, f.count, f.cmd, f.arg, f.tag⟩
  else ⟨f.kind, 0, 0, 0, 0, 0, f.cmd, 0, z32⟩
def plainF (f : Fra) : Bool := inB f.kind 0 6 && (inB f.user 0 255 && (inB f.epoch 0 1073741824 && (inB f.cmd 0 255 && (inB f.arg 0 65535 && eqFr (bareF f) f))))
def tagdF (k : Int) : Bool := inB k 2 5
/-- The numbers of a frame, and how many bytes each takes. -/
def numsF (f : Fra) : List (Int × Nat) :=
  if f.kind = 0 then [(f.user, 1), (f.cn, 8)]
  else if f.kind = 1 then [(f.sess, 8), (f.epoch, 4)]
  else if f.kind = 2 then [(f.sess, 8)]
  else if f.kind = 3 then [(f.sess, 8)]
  else if f.kind = 4 then [(f.sess, 8), (f.count, 8), (f.cmd, 1), (f.arg, 2)]
  else if f.kind = 5 then [(f.sess, 8), (f.count, 8), (f.cmd, 1), (f.arg, 2)]
  else [(f.cmd, 1)]
/-- How many bytes follow the first two. -/
def szF (k : Int) : Nat :=
  if k = 0 then 10 else if k = 1 then 13 else if k = 2 then 41 else if k = 3 then 41 else if k = 4 then 52 else if k = 5 then 52 else 2
def allF (f : Fra) : List (Int × Nat) := ((szF f.kind : Int), 2) :: (f.kind, 1) :: numsF f
def frontF (f : Fra) : List Int := catB (allF f)
theorem kinds {k : Int} (h : inB k 0 6 = true) : k = 0 ∨ k = 1 ∨ k = 2 ∨ k = 3 ∨ k = 4 ∨ k = 5 ∨ k = 6 := by
  simp only [inB, Bool.and_eq_true, decide_eq_true_eq] at h; omega
structure PlF (f : Fra) : Prop where
  kind : inB f.kind 0 6 = true
  user : 0 ≤ f.user ∧ f.user ≤ 255
  epoch : 0 ≤ f.epoch ∧ f.epoch ≤ 1073741824
  cmd : 0 ≤ f.cmd ∧ f.cmd ≤ 255
  arg : 0 ≤ f.arg ∧ f.arg ≤ 65535
  bare : bareF f = f
theorem plainF_iff (f : Fra) : plainF f = true ↔ PlF f := by
  unfold plainF
  constructor
  · intro h
    simp only [Bool.and_eq_true, eqFr_iff] at h
    obtain ⟨h1, h2, h3, h4, h5, h6⟩ := h
    simp only [inB, Bool.and_eq_true, decide_eq_true_eq] at h2 h3 h4 h5
    exact ⟨h1, h2, h3, h4, h5, h6⟩
  · rintro ⟨h1, h2, h3, h4, h5, h6⟩
    simp only [Bool.and_eq_true, eqFr_iff]
    simp only [inB, Bool.and_eq_true, decide_eq_true_eq] at h1 ⊢
    exact ⟨h1, h2, h3, h4, h5, h6⟩
theorem fitsB_of {n : Int} {k : Nat} (h0 : 0 ≤ n) (h : n < 256 ^ k) : fitsB n k = true := by
  unfold fitsB; rw [Int.ediv_eq_zero_of_lt h0 h]; simp
theorem fitAll_allF (f : Fra) (h : PlF f) (o : okF f) : fitAll (allF f) = true := by
  obtain ⟨h1, h2, h3, h4, h5, _⟩ := h
  obtain ⟨o1, o2, o3, _, _⟩ := o
  have hk := kinds h1
  have q1 : fitsB f.user 1 = true := fitsB_of h2.1 (by omega)
  have q2 : fitsB f.cn 8 = true := fitsB_of o2.1 (by omega)
  have q3 : fitsB f.sess 8 = true := fitsB_of o1.1 (by omega)
  have q4 : fitsB f.epoch 4 = true := fitsB_of h3.1 (by omega)
  have q5 : fitsB f.count 8 = true := fitsB_of o3.1 (by omega)
  have q6 : fitsB f.cmd 1 = true := fitsB_of h4.1 (by omega)
  have q7 : fitsB f.arg 2 = true := fitsB_of h5.1 (by omega)
  have q8 : fitsB f.kind 1 = true := fitsB_of (by omega) (by omega)
  have q9 : fitsB (szF f.kind : Int) 2 = true := fitsB_of (by omega) (by
    unfold szF; rcases hk with e | e | e | e | e | e | e <;> rw [e] <;> decide)
  simp only [allF, fitAll, q8, q9, Bool.true_and]
  unfold numsF
  rcases hk with e | e | e | e | e | e | e <;> rw [e] <;> simp [fitAll, q1, q2, q3, q4, q5, q6, q7]
theorem okNu_allF (f : Fra) (h : PlF f) (o : okF f) : ∀ x ∈ allF f, okNu x := by
  obtain ⟨h1, h2, h3, h4, h5, _⟩ := h
  obtain ⟨o1, o2, o3, _, _⟩ := o
  have hk := kinds h1
  have q1 : okNu (f.user, 1) := ⟨Nat.le_of_ble_eq_true rfl, Nat.le_of_ble_eq_true rfl, by simp only; omega, by simp only; omega⟩
  have q2 : okNu (f.cn, 8) := ⟨Nat.le_of_ble_eq_true rfl, Nat.le_of_ble_eq_true rfl, by simp only; omega, by simp only; omega⟩
  have q3 : okNu (f.sess, 8) := ⟨Nat.le_of_ble_eq_true rfl, Nat.le_of_ble_eq_true rfl, by simp only; omega, by simp only; omega⟩
  have q4 : okNu (f.epoch, 4) := ⟨Nat.le_of_ble_eq_true rfl, Nat.le_of_ble_eq_true rfl, by simp only; omega, by simp only; omega⟩
  have q5 : okNu (f.count, 8) := ⟨Nat.le_of_ble_eq_true rfl, Nat.le_of_ble_eq_true rfl, by simp only; omega, by simp only; omega⟩
  have q6 : okNu (f.cmd, 1) := ⟨Nat.le_of_ble_eq_true rfl, Nat.le_of_ble_eq_true rfl, by simp only; omega, by simp only; omega⟩
  have q7 : okNu (f.arg, 2) := ⟨Nat.le_of_ble_eq_true rfl, Nat.le_of_ble_eq_true rfl, by simp only; omega, by simp only; omega⟩
  have q8 : okNu (f.kind, 1) := ⟨Nat.le_of_ble_eq_true rfl, Nat.le_of_ble_eq_true rfl, by simp only; omega, by simp only; omega⟩
  have hs : szF f.kind ≤ 52 := by unfold szF; rcases hk with e | e | e | e | e | e | e <;> rw [e] <;> decide
  have q9 : okNu ((szF f.kind : Int), 2) := ⟨Nat.le_of_ble_eq_true rfl, Nat.le_of_ble_eq_true rfl, by simp only; omega, by simp only; omega⟩
  intro x hx
  simp only [allF, List.mem_cons] at hx
  rcases hx with rfl | rfl | hx
  · exact q9
  · exact q8
  · unfold numsF at hx
    rcases hk with e | e | e | e | e | e | e <;> rw [e] at hx <;> simp at hx
    · rcases hx with rfl | rfl <;> assumption
    · rcases hx with rfl | rfl <;> assumption
    · subst hx; assumption
    · subst hx; assumption
    · rcases hx with rfl | rfl | rfl | rfl <;> assumption
    · rcases hx with rfl | rfl | rfl | rfl <;> assumption
    · subst hx; assumption
theorem numsF_len (f : Fra) : (numsF f).length ≤ 4 := by
  unfold numsF
  repeat' split
  all_goals simp
/-- How many bytes stand ahead of the tag. -/
def aheadF (k : Int) : Nat :=
  if k = 0 then 12 else if k = 1 then 15 else if k = 2 then 11 else if k = 3 then 11 else if k = 4 then 22 else if k = 5 then 22 else 4
theorem frontF_len (f : Fra) : (frontF f).length = aheadF f.kind := by
  unfold frontF allF numsF aheadF
  simp only [catB, List.length_append, be_len]
  repeat' split
  all_goals simp [catB, be_len]
end
section
theorem szF_le (k : Int) : 2 ≤ szF k ∧ szF k ≤ 52 := by
  unfold szF
  repeat' split
  all_goals omega
end
section
/-- A field that is a number, one that is a long one: where it is, and how many bytes it takes. -/
def sN (o i : Nat) (k : Int) : List PV := [.p o 0 0 i none, .np, .i .i64 k]
def sU (o i : Nat) (k : Int) : List PV := [.np, .p o 0 0 i none, .i .i64 k]
def rowS (l : List (List PV)) (c : Option Nat) : Obj' := { els := l, w := 3, pu := false, g := true, cap := c, ver := 0, fro := false }
def fbox (f : Fra) : Obj' := box (frC f) 40
end
section
theorem bnd_cg {α β : Type} {x y : Option α} {K : α → Option β} (h : x = y) : bnd x K = bnd y K := by rw [h]
theorem bndO_cg {β : Type} {x y : Option Up} {ob : OB} {K : PV → OB → Option β} (h : x = y) : bndO x ob K = bndO y ob K := by rw [h]
theorem br_cg {c c' : PV} {A B : Option (PV × List Obj')} (h : c = c') : br c A B = br c' A B := by rw [h]
theorem k_cnt0 (o : Nat) : cntN o [] = 0 := rfl
theorem k_cnt (o x : Nat) (r : List Nat) : cntN o (x :: r) = (if x = o then 1 else 0) + cntN o r := by simp only [cntN]; split <;> omega
theorem k_ncp (o v i f : Nat) (b : Option Nat) : nc (.p o v i f b) = some (.p o v i f b) := rfl
/-- The fields of a frame of a kind, in the object o. -/
def slF (o : Nat) (k : Int) : List (List PV) :=
  if k = 0 then [sN o 1 1, sU o 3 8] else if k = 1 then [sU o 2 8, sN o 4 4] else if k = 2 then [sU o 2 8] else if k = 3 then [sU o 2 8]
  else if k = 4 then [sU o 2 8, sU o 5 8, sN o 6 1, sN o 7 2] else if k = 5 then [sU o 2 8, sU o 5 8, sN o 6 1, sN o 7 2] else [sN o 6 1]
def cpF (k : Int) : Option Nat := if k = 0 then some 2 else if k = 1 then some 2 else if k = 6 then some 1 else none
end
section
attribute [local congr] bnd_cg bndO_cg br_cg
theorem k_hdp (o v i f : Nat) (b : Option Nat) (r : List PV) : hd1 (some (.p o v i f b :: r)) = some (.p o v i f b) := rfl
theorem k_hdnp (r : List PV) : hd1 (some (.np :: r)) = some .np := rfl
theorem k_enp (neg : Bool) (o v i f : Nat) (b : Option Nat) : eNp neg (.p o v i f b) = some (.b neg) := rfl
theorem k_ennp (neg : Bool) : eNp neg .np = some (.b (!neg)) := rfl
def KF := And.intro @k_ncp (And.intro @k_hdp (And.intro @k_hdnp (And.intro @k_enp @k_ennp)))
theorem V35_0 (N d : Nat) (a2 a3 a4 a5 a6 a7 a8 : Int) (a9 : List Int) : sem tab (N + 6) (d + 3) 37 [.agg (frC ⟨0, a2, a3, a4, a5, a6, a7, a8, a9⟩)] [] = some (.agg (frC (bareF ⟨0, a2, a3, a4, a5, a6, a7, a8, a9⟩)), []) := by
  kernel_rfl
theorem V35_1 (N d : Nat) (a2 a3 a4 a5 a6 a7 a8 : Int) (a9 : List Int) : sem tab (N + 6) (d + 3) 37 [.agg (frC ⟨1, a2, a3, a4, a5, a6, a7, a8, a9⟩)] [] = some (.agg (frC (bareF ⟨1, a2, a3, a4, a5, a6, a7, a8, a9⟩)), []) := by
  kernel_rfl
theorem V35_2 (N d : Nat) (a2 a3 a4 a5 a6 a7 a8 : Int) (a9 : List Int) : sem tab (N + 6) (d + 3) 37 [.agg (frC ⟨2, a2, a3, a4, a5, a6, a7, a8, a9⟩)] [] = some (.agg (frC (bareF ⟨2, a2, a3, a4, a5, a6, a7, a8, a9⟩)), []) := by
  kernel_rfl
theorem V35_3 (N d : Nat) (a2 a3 a4 a5 a6 a7 a8 : Int) (a9 : List Int) : sem tab (N + 6) (d + 3) 37 [.agg (frC ⟨3, a2, a3, a4, a5, a6, a7, a8, a9⟩)] [] = some (.agg (frC (bareF ⟨3, a2, a3, a4, a5, a6, a7, a8, a9⟩)), []) := by
  kernel_rfl
theorem V35_4 (N d : Nat) (a2 a3 a4 a5 a6 a7 a8 : Int) (a9 : List Int) : sem tab (N + 6) (d + 3) 37 [.agg (frC ⟨4, a2, a3, a4, a5, a6, a7, a8, a9⟩)] [] = some (.agg (frC (bareF ⟨4, a2, a3, a4, a5, a6, a7, a8, a9⟩)), []) := by
  kernel_rfl
theorem V35_5 (N d : Nat) (a2 a3 a4 a5 a6 a7 a8 : Int) (a9 : List Int) : sem tab (N + 6) (d + 3) 37 [.agg (frC ⟨5, a2, a3, a4, a5, a6, a7, a8, a9⟩)] [] = some (.agg (frC (bareF ⟨5, a2, a3, a4, a5, a6, a7, a8, a9⟩)), []) := by
  kernel_rfl
theorem V35_6 (N d : Nat) (a2 a3 a4 a5 a6 a7 a8 : Int) (a9 : List Int) : sem tab (N + 6) (d + 3) 37 [.agg (frC ⟨6, a2, a3, a4, a5, a6, a7, a8, a9⟩)] [] = some (.agg (frC (bareF ⟨6, a2, a3, a4, a5, a6, a7, a8, a9⟩)), []) := by
  kernel_rfl
/-- A frame of its kind's fields alone. -/
theorem V35 (N d : Nat) (f : Fra) (hk : inB f.kind 0 6 = true) : sem tab (N + 6) (d + 3) 37 [.agg (frC f)] [] = some (.agg (frC (bareF f)), []) := by
  have hk := kinds hk
  obtain ⟨a1, a2, a3, a4, a5, a6, a7, a8, a9⟩ := f
  simp only at hk
  rcases hk with e | e | e | e | e | e | e <;> subst e
  · exact V35_0 ..
  · exact V35_1 ..
  · exact V35_2 ..
  · exact V35_3 ..
  · exact V35_4 ..
  · exact V35_5 ..
  · exact V35_6 ..
theorem V33p (N d : Nat) (a c : Int) : sem tab N (d + 1) 35 [.i .i64 a, .i .i64 c] [] = some (.b (inB a 0 c), []) := by
  rw [sem_succ tab N d 35 m35 rfl]
  by_cases h : 0 ≤ a <;> simp -implicitDefEqProofs (disch := first | omega | rfl) [m35, inB, h, KS, getS, getO, gS, zipN, dropW, takeW, wds, stvs, sea, seaL, refs, refsL, refsEls, refsO, isPureEls, isPures, isPure, noExt, noExts, noExtEls, cellsL, ren, renL, renEls, keepO, keepS, keysO, refsS, refsOB, headC, setS, boxO, row, putW, putB, putB1, eNl, newOs, frz, renO, noExtO, zps, zp, two32, w64, -getElem?_pos, k_cnt, k_cnt0]
theorem cav33 (N d : Nat) (ob : OB) (n : Nat) (a c : Int) : cav (sem tab N (d + 1)) ob n false (.fn 35 [] []) [.i .i64 a, .i .i64 c] = some (.b (inB a 0 c), []) := by
  have h := V33p N d a c
  have e : reifies ob [PV.i .i64 a, .i .i64 c] = some ([.i .i64 a, .i .i64 c], []) := by simp [reifies, reify, reify0]
  have r : reach ob 20 (refsL [PV.i .i64 a, .i .i64 c]) [] = some [] := by simp [refsL, refs, reach]
  simp only [cav, List.nil_append, List.append_nil]
  unfold ca
  simp only [hand, Bool.false_eq_true, if_false, e, r, h]
  simp [back0, ren]
theorem V34k (N d : Nat) (a : Int) : sem tab N (d + 1) 36 [.i .i64 a] [] = some (.b (inB a 0 6), []) := by
  rw [sem_succ tab N d 36 m36 rfl]
  have e : decide (a < 7) = decide (a ≤ 6) := by
    by_cases h : a ≤ 6
    · rw [decide_eq_true h, decide_eq_true (by omega)]
    · rw [decide_eq_false h, decide_eq_false (by omega)]
  by_cases h : 0 ≤ a <;> simp -implicitDefEqProofs (disch := first | omega | rfl) [m36, inB, h, e, KS, getS, getO, gS, zipN, dropW, takeW, wds, stvs, sea, seaL, refs, refsL, refsEls, refsO, isPureEls, isPures, isPure, noExt, noExts, noExtEls, cellsL, ren, renL, renEls, keepO, keepS, keysO, refsS, refsOB, headC, setS, boxO, row, putW, putB, putB1, eNl, newOs, frz, renO, noExtO, zps, zp, two32, w64, -getElem?_pos, k_cnt, k_cnt0]
theorem eqIs_uL : ∀ (xs ys : List Int), xs.length = ys.length → eqIs (uL xs) (uL ys) = some (decide (xs = ys))
  | [], [], _ => by simp [uL, eqIs]
  | [], _ :: _, h => by simp at h
  | _ :: _, [], h => by simp at h
  | x :: r, y :: s, h => by
    have := eqIs_uL r s (by simpa using h)
    simp only [uL] at this
    simp only [uL, List.map_cons, eqIs, eqI, if_pos rfl, this, Option.some.injEq]
    by_cases e : x = y
    · subst e; simp
    · simp [e]
theorem eSt_fr (f g : Fra) (hf : f.tag.length = 32) (hg : g.tag.length = 32) : eSt false [.i, .i, .i, .i, .i, .i, .i, .i, .a 32] (.agg (frC f)) (.agg (frC g)) = some (.b (eqFr f g)) := by
  have h := eqIs_uL f.tag g.tag (by rw [hf, hg])
  simp only [eSt, frC, eqSh, eqS1, if_pos rfl, andRR, andR, and_self, h, notR, eqFr]
  simp
theorem bareF_tag (f : Fra) (h : f.tag.length = 32) : (bareF f).tag.length = 32 := by
  unfold bareF
  repeat' split
  all_goals first | exact z32_len | exact h
set_option maxHeartbeats 8000000 in
/-- Which frames are plain. -/
theorem V19 (N d : Nat) (f : Fra) (ht : f.tag.length = 32) : sem tab (N + 6) (d + 4) 20 [.agg (frC f)] [] = some (.b (plainF f), []) := by
  rw [sem_succ tab (N + 6) (d + 3) 20 m20 rfl]
  have h34 := V34k (N + 6) (d + 2) f.kind
  have hc := cav33 (N + 6) (d + 2)
  have h35 := fun hk => V35 N d f hk
  have he := eSt_fr (bareF f) f (bareF_tag f ht) ht
  obtain ⟨a1, a2, a3, a4, a5, a6, a7, a8, a9⟩ := f
  simp only [plainF] at *
  generalize bareF ⟨a1, a2, a3, a4, a5, a6, a7, a8, a9⟩ = w at *
  obtain ⟨b1, b2, b3, b4, b5, b6, b7, b8, b9⟩ := w
  simp only [frC] at *
  generalize uL b9 = p at *
  generalize uL a9 = q at *
  generalize eqFr ⟨b1, b2, b3, b4, b5, b6, b7, b8, b9⟩ ⟨a1, a2, a3, a4, a5, a6, a7, a8, a9⟩ = z at *
  cases c0 : inB a1 0 6
  · simp -implicitDefEqProofs (maxSteps := 1000000) (disch := first | omega | rfl) [m20, h34, hc, c0, boxO, KF, KS, getS, getO, gS, zipN, dropW, takeW, wds, stvs, sea, seaL, refs, refsL, refsEls, refsO, isPureEls, isPures, isPure, noExt, noExts, noExtEls, cellsL, ren, renL, renEls, keepO, keepS, keysO, refsS, refsOB, headC, setS, boxO, row, putW, putB, putB1, eNl, newOs, frz, renO, noExtO, zps, zp, two32, w64, -getElem?_pos, k_cnt, k_cnt0]
  have h35 := h35 c0
  cases c1 : inB a2 0 255
  · simp -implicitDefEqProofs (maxSteps := 1000000) (disch := first | omega | rfl) [m20, h34, hc, c0, c1, boxO, KF, KS, getS, getO, gS, zipN, dropW, takeW, wds, stvs, sea, seaL, refs, refsL, refsEls, refsO, isPureEls, isPures, isPure, noExt, noExts, noExtEls, cellsL, ren, renL, renEls, keepO, keepS, keysO, refsS, refsOB, headC, setS, boxO, row, putW, putB, putB1, eNl, newOs, frz, renO, noExtO, zps, zp, two32, w64, -getElem?_pos, k_cnt, k_cnt0]
  cases c2 : inB a5 0 1073741824
  · simp -implicitDefEqProofs (maxSteps := 1000000) (disch := first | omega | rfl) [m20, h34, hc, c0, c1, c2, boxO, KF, KS, getS, getO, gS, zipN, dropW, takeW, wds, stvs, sea, seaL, refs, refsL, refsEls, refsO, isPureEls, isPures, isPure, noExt, noExts, noExtEls, cellsL, ren, renL, renEls, keepO, keepS, keysO, refsS, refsOB, headC, setS, boxO, row, putW, putB, putB1, eNl, newOs, frz, renO, noExtO, zps, zp, two32, w64, -getElem?_pos, k_cnt, k_cnt0]
  cases c3 : inB a7 0 255
  · simp -implicitDefEqProofs (maxSteps := 1000000) (disch := first | omega | rfl) [m20, h34, hc, c0, c1, c2, c3, boxO, KF, KS, getS, getO, gS, zipN, dropW, takeW, wds, stvs, sea, seaL, refs, refsL, refsEls, refsO, isPureEls, isPures, isPure, noExt, noExts, noExtEls, cellsL, ren, renL, renEls, keepO, keepS, keysO, refsS, refsOB, headC, setS, boxO, row, putW, putB, putB1, eNl, newOs, frz, renO, noExtO, zps, zp, two32, w64, -getElem?_pos, k_cnt, k_cnt0]
  cases c4 : inB a8 0 65535
  · simp -implicitDefEqProofs (maxSteps := 1000000) (disch := first | omega | rfl) [m20, h34, hc, c0, c1, c2, c3, c4, boxO, KF, KS, getS, getO, gS, zipN, dropW, takeW, wds, stvs, sea, seaL, refs, refsL, refsEls, refsO, isPureEls, isPures, isPure, noExt, noExts, noExtEls, cellsL, ren, renL, renEls, keepO, keepS, keysO, refsS, refsOB, headC, setS, boxO, row, putW, putB, putB1, eNl, newOs, frz, renO, noExtO, zps, zp, two32, w64, -getElem?_pos, k_cnt, k_cnt0]
  · simp -implicitDefEqProofs (maxSteps := 1000000) (disch := first | omega | rfl) [m20, h34, hc, c0, c1, c2, c3, c4, h35, he, boxO, KF, KS, getS, getO, gS, zipN, dropW, takeW, wds, stvs, sea, seaL, refs, refsL, refsEls, refsO, isPureEls, isPures, isPure, noExt, noExts, noExtEls, cellsL, ren, renL, renEls, keepO, keepS, keysO, refsS, refsOB, headC, setS, boxO, row, putW, putB, putB1, eNl, newOs, frz, renO, noExtO, zps, zp, two32, w64, -getElem?_pos, k_cnt, k_cnt0]
end
section
attribute [local congr] bnd_cg bndO_cg br_cg
theorem wu64 {n : Int} (h0 : 0 ≤ n) (h1 : n < 18446744073709551616) : IntKind.u64.wrap n = n := by rw [IntKind.wrap_u64]; omega
theorem uz32 : uL z32 = List.replicate 32 (.i .u8 0) := rfl
def sl20f (t : Bool) (sz : Int) (n : Nat) : SL := [(5, .b t), (6, .i .i64 sz), (7, .sl 240 n 0 (n + 2)), (23, .sl 176 0 0 n), (24, .i .i64 n), (25, .i .i64 n)]
def ob20f (k : Int) (f : Fra) (n : Nat) (l : List (List PV)) : OB := [(72, fbox f), (176, rowS (slF 72 k) (cpF k)), (240, { els := [.i .u64 0, .i .i64 0] :: [.i .u64 (IntKind.u64.wrap k), .i .i64 1] :: l, w := 2, pu := true, g := true, cap := none, ver := n, fro := false })]
theorem T20_0 (N d : Nat) (a2 a3 a4 a5 a6 a7 a8 : Int) (a9 : List Int) : m21 (sem tab (N + 100) (d + 3)) (N + 100) [.agg (frC ⟨0, a2, a3, a4, a5, a6, a7, a8, a9⟩)] [] = m21b0 (sem tab (N + 100) (d + 3)) (N + 100) [] (loopC (m21b0 (sem tab (N + 100) (d + 3)) (N + 100) []) (N + 97)) (sl20f false 10 2) (ob20f 0 ⟨0, a2, a3, a4, a5, a6, a7, a8, a9⟩ 2 [[.i .u64 (IntKind.u64.wrap a2), .i .i64 1], [.i .u64 a4, .i .i64 8]]) := by
  kernel_rfl
theorem T20_1 (N d : Nat) (a2 a3 a4 a5 a6 a7 a8 : Int) (a9 : List Int) : m21 (sem tab (N + 100) (d + 3)) (N + 100) [.agg (frC ⟨1, a2, a3, a4, a5, a6, a7, a8, a9⟩)] [] = m21b0 (sem tab (N + 100) (d + 3)) (N + 100) [] (loopC (m21b0 (sem tab (N + 100) (d + 3)) (N + 100) []) (N + 97)) (sl20f false 13 2) (ob20f 1 ⟨1, a2, a3, a4, a5, a6, a7, a8, a9⟩ 2 [[.i .u64 a3, .i .i64 8], [.i .u64 (IntKind.u64.wrap a5), .i .i64 4]]) := by
  kernel_rfl
theorem T20_2 (N d : Nat) (a2 a3 a4 a5 a6 a7 a8 : Int) (a9 : List Int) : m21 (sem tab (N + 100) (d + 3)) (N + 100) [.agg (frC ⟨2, a2, a3, a4, a5, a6, a7, a8, a9⟩)] [] = m21b0 (sem tab (N + 100) (d + 3)) (N + 100) [] (loopC (m21b0 (sem tab (N + 100) (d + 3)) (N + 100) []) (N + 98)) (sl20f true 9 1) (ob20f 2 ⟨2, a2, a3, a4, a5, a6, a7, a8, a9⟩ 1 [[.i .u64 a3, .i .i64 8]]) := by
  kernel_rfl
theorem T20_3 (N d : Nat) (a2 a3 a4 a5 a6 a7 a8 : Int) (a9 : List Int) : m21 (sem tab (N + 100) (d + 3)) (N + 100) [.agg (frC ⟨3, a2, a3, a4, a5, a6, a7, a8, a9⟩)] [] = m21b0 (sem tab (N + 100) (d + 3)) (N + 100) [] (loopC (m21b0 (sem tab (N + 100) (d + 3)) (N + 100) []) (N + 98)) (sl20f true 9 1) (ob20f 3 ⟨3, a2, a3, a4, a5, a6, a7, a8, a9⟩ 1 [[.i .u64 a3, .i .i64 8]]) := by
  kernel_rfl
theorem T20_4 (N d : Nat) (a2 a3 a4 a5 a6 a7 a8 : Int) (a9 : List Int) : m21 (sem tab (N + 100) (d + 3)) (N + 100) [.agg (frC ⟨4, a2, a3, a4, a5, a6, a7, a8, a9⟩)] [] = m21b0 (sem tab (N + 100) (d + 3)) (N + 100) [] (loopC (m21b0 (sem tab (N + 100) (d + 3)) (N + 100) []) (N + 95)) (sl20f true 20 4) (ob20f 4 ⟨4, a2, a3, a4, a5, a6, a7, a8, a9⟩ 4 [[.i .u64 a3, .i .i64 8], [.i .u64 a6, .i .i64 8], [.i .u64 (IntKind.u64.wrap a7), .i .i64 1], [.i .u64 (IntKind.u64.wrap a8), .i .i64 2]]) := by
  kernel_rfl
theorem T20_5 (N d : Nat) (a2 a3 a4 a5 a6 a7 a8 : Int) (a9 : List Int) : m21 (sem tab (N + 100) (d + 3)) (N + 100) [.agg (frC ⟨5, a2, a3, a4, a5, a6, a7, a8, a9⟩)] [] = m21b0 (sem tab (N + 100) (d + 3)) (N + 100) [] (loopC (m21b0 (sem tab (N + 100) (d + 3)) (N + 100) []) (N + 95)) (sl20f true 20 4) (ob20f 5 ⟨5, a2, a3, a4, a5, a6, a7, a8, a9⟩ 4 [[.i .u64 a3, .i .i64 8], [.i .u64 a6, .i .i64 8], [.i .u64 (IntKind.u64.wrap a7), .i .i64 1], [.i .u64 (IntKind.u64.wrap a8), .i .i64 2]]) := by
  kernel_rfl
theorem T20_6 (N d : Nat) (a2 a3 a4 a5 a6 a7 a8 : Int) (a9 : List Int) : m21 (sem tab (N + 100) (d + 3)) (N + 100) [.agg (frC ⟨6, a2, a3, a4, a5, a6, a7, a8, a9⟩)] [] = m21b0 (sem tab (N + 100) (d + 3)) (N + 100) [] (loopC (m21b0 (sem tab (N + 100) (d + 3)) (N + 100) []) (N + 98)) (sl20f false 2 1) (ob20f 6 ⟨6, a2, a3, a4, a5, a6, a7, a8, a9⟩ 1 [[.i .u64 (IntKind.u64.wrap a7), .i .i64 1]]) := by
  kernel_rfl
set_option maxHeartbeats 16000000 in
/-- The bytes ahead of the tag, and whether there is one. -/
theorem V20 (N d : Nat) (f : Fra) (h : PlF f) (o : okF f) : sem tab (N + 100) (d + 4) 21 [.agg (frC f)] [] = some (.tup [.sl 0 0 0 (aheadF f.kind), .b (tagdF f.kind)], [row (byL (frontF f)) 1 true]) := by
  rw [sem_succ tab (N + 100) (d + 3) 21 m21 rfl]
  have h36 := U39c N d (allF f) (by have := numsF_len f; simp only [allF, List.length_cons]; omega) (okNu_allF f h o)
  rw [fitAll_allF f h o, cond_true, show catB (allF f) = frontF f from rfl, frontF_len] at h36
  have hl := byL_len (frontF f)
  rw [frontF_len] at hl
  have ht : List.take (aheadF f.kind) (byL (frontF f)) = byL (frontF f) := List.take_of_length_le (by omega)
  have hk := kinds h.kind
  obtain ⟨_, p2, p3, p4, p5, _⟩ := h
  have u2 := wu64 p2.1 (by omega)
  have u3 := wu64 p3.1 (by omega)
  have u4 := wu64 p4.1 (by omega)
  have u5 := wu64 p5.1 (by omega)
  have v0 : IntKind.u64.wrap 0 = 0 := by decide
  have v1 : IntKind.u64.wrap 1 = 1 := by decide
  have v2 : IntKind.u64.wrap 2 = 2 := by decide
  have v3 : IntKind.u64.wrap 3 = 3 := by decide
  have v4 : IntKind.u64.wrap 4 = 4 := by decide
  have v5 : IntKind.u64.wrap 5 = 5 := by decide
  have v6 : IntKind.u64.wrap 6 = 6 := by decide
  have x1 : IntKind.u64.wrap 10 = 10 := by decide
  have x2 : IntKind.u64.wrap 13 = 13 := by decide
  have x3 : IntKind.u64.wrap 41 = 41 := by decide
  have x4 : IntKind.u64.wrap 52 = 52 := by decide
  generalize byL (frontF f) = b at *
  clear p2 p3 p4 p5 o
  obtain ⟨a1, a2, a3, a4, a5, a6, a7, a8, a9⟩ := f
  simp only at *
  rcases hk with e | e | e | e | e | e | e <;> subst e
  · rw [T20_0]
    simp only [sl20f, ob20f, fbox, frC, rowS, sU, sN, box, slF, cpF, tagdF, inB, nuL, allF, numsF, szF, aheadF, row] at h36 hl ht ⊢
    generalize uL a9 = q at *
    generalize loopC (m21b0 (sem tab (N + 100) (d + 3)) (N + 100) []) _ = g
    simp at h36 hl ht
    simp -implicitDefEqProofs (maxSteps := 1000000) (disch := first | omega | rfl) [m21b0, u2, u3, u4, u5, v0, v1, v2, v3, v4, v5, v6, x1, x2, x3, x4, hl, ht, h36, boxO, fin, resOs, refsOuts, refsX, outOs, outX, resO, one, KF, KS, getS, getO, gS, zipN, dropW, takeW, wds, stvs, sea, seaL, refs, refsL, refsEls, refsO, isPureEls, isPures, isPure, noExt, noExts, noExtEls, cellsL, ren, renL, renEls, keepO, keepS, keysO, refsS, refsOB, headC, setS, boxO, row, putW, putB, putB1, eNl, newOs, frz, renO, noExtO, zps, zp, two32, w64, -getElem?_pos, k_cnt, k_cnt0]
  · rw [T20_1]
    simp only [sl20f, ob20f, fbox, frC, rowS, sU, sN, box, slF, cpF, tagdF, inB, nuL, allF, numsF, szF, aheadF, row] at h36 hl ht ⊢
    generalize uL a9 = q at *
    generalize loopC (m21b0 (sem tab (N + 100) (d + 3)) (N + 100) []) _ = g
    simp at h36 hl ht
    simp -implicitDefEqProofs (maxSteps := 1000000) (disch := first | omega | rfl) [m21b0, u2, u3, u4, u5, v0, v1, v2, v3, v4, v5, v6, x1, x2, x3, x4, hl, ht, h36, boxO, fin, resOs, refsOuts, refsX, outOs, outX, resO, one, KF, KS, getS, getO, gS, zipN, dropW, takeW, wds, stvs, sea, seaL, refs, refsL, refsEls, refsO, isPureEls, isPures, isPure, noExt, noExts, noExtEls, cellsL, ren, renL, renEls, keepO, keepS, keysO, refsS, refsOB, headC, setS, boxO, row, putW, putB, putB1, eNl, newOs, frz, renO, noExtO, zps, zp, two32, w64, -getElem?_pos, k_cnt, k_cnt0]
  · rw [T20_2]
    simp only [sl20f, ob20f, fbox, frC, rowS, sU, sN, box, slF, cpF, tagdF, inB, nuL, allF, numsF, szF, aheadF, row] at h36 hl ht ⊢
    generalize uL a9 = q at *
    generalize loopC (m21b0 (sem tab (N + 100) (d + 3)) (N + 100) []) _ = g
    simp at h36 hl ht
    simp -implicitDefEqProofs (maxSteps := 1000000) (disch := first | omega | rfl) [m21b0, u2, u3, u4, u5, v0, v1, v2, v3, v4, v5, v6, x1, x2, x3, x4, hl, ht, h36, boxO, fin, resOs, refsOuts, refsX, outOs, outX, resO, one, KF, KS, getS, getO, gS, zipN, dropW, takeW, wds, stvs, sea, seaL, refs, refsL, refsEls, refsO, isPureEls, isPures, isPure, noExt, noExts, noExtEls, cellsL, ren, renL, renEls, keepO, keepS, keysO, refsS, refsOB, headC, setS, boxO, row, putW, putB, putB1, eNl, newOs, frz, renO, noExtO, zps, zp, two32, w64, -getElem?_pos, k_cnt, k_cnt0]
  · rw [T20_3]
    simp only [sl20f, ob20f, fbox, frC, rowS, sU, sN, box, slF, cpF, tagdF, inB, nuL, allF, numsF, szF, aheadF, row] at h36 hl ht ⊢
    generalize uL a9 = q at *
    generalize loopC (m21b0 (sem tab (N + 100) (d + 3)) (N + 100) []) _ = g
    simp at h36 hl ht
    simp -implicitDefEqProofs (maxSteps := 1000000) (disch := first | omega | rfl) [m21b0, u2, u3, u4, u5, v0, v1, v2, v3, v4, v5, v6, x1, x2, x3, x4, hl, ht, h36, boxO, fin, resOs, refsOuts, refsX, outOs, outX, resO, one, KF, KS, getS, getO, gS, zipN, dropW, takeW, wds, stvs, sea, seaL, refs, refsL, refsEls, refsO, isPureEls, isPures, isPure, noExt, noExts, noExtEls, cellsL, ren, renL, renEls, keepO, keepS, keysO, refsS, refsOB, headC, setS, boxO, row, putW, putB, putB1, eNl, newOs, frz, renO, noExtO, zps, zp, two32, w64, -getElem?_pos, k_cnt, k_cnt0]
  · rw [T20_4]
    simp only [sl20f, ob20f, fbox, frC, rowS, sU, sN, box, slF, cpF, tagdF, inB, nuL, allF, numsF, szF, aheadF, row] at h36 hl ht ⊢
    generalize uL a9 = q at *
    generalize loopC (m21b0 (sem tab (N + 100) (d + 3)) (N + 100) []) _ = g
    simp at h36 hl ht
    simp -implicitDefEqProofs (maxSteps := 1000000) (disch := first | omega | rfl) [m21b0, u2, u3, u4, u5, v0, v1, v2, v3, v4, v5, v6, x1, x2, x3, x4, hl, ht, h36, boxO, fin, resOs, refsOuts, refsX, outOs, outX, resO, one, KF, KS, getS, getO, gS, zipN, dropW, takeW, wds, stvs, sea, seaL, refs, refsL, refsEls, refsO, isPureEls, isPures, isPure, noExt, noExts, noExtEls, cellsL, ren, renL, renEls, keepO, keepS, keysO, refsS, refsOB, headC, setS, boxO, row, putW, putB, putB1, eNl, newOs, frz, renO, noExtO, zps, zp, two32, w64, -getElem?_pos, k_cnt, k_cnt0]
  · rw [T20_5]
    simp only [sl20f, ob20f, fbox, frC, rowS, sU, sN, box, slF, cpF, tagdF, inB, nuL, allF, numsF, szF, aheadF, row] at h36 hl ht ⊢
    generalize uL a9 = q at *
    generalize loopC (m21b0 (sem tab (N + 100) (d + 3)) (N + 100) []) _ = g
    simp at h36 hl ht
    simp -implicitDefEqProofs (maxSteps := 1000000) (disch := first | omega | rfl) [m21b0, u2, u3, u4, u5, v0, v1, v2, v3, v4, v5, v6, x1, x2, x3, x4, hl, ht, h36, boxO, fin, resOs, refsOuts, refsX, outOs, outX, resO, one, KF, KS, getS, getO, gS, zipN, dropW, takeW, wds, stvs, sea, seaL, refs, refsL, refsEls, refsO, isPureEls, isPures, isPure, noExt, noExts, noExtEls, cellsL, ren, renL, renEls, keepO, keepS, keysO, refsS, refsOB, headC, setS, boxO, row, putW, putB, putB1, eNl, newOs, frz, renO, noExtO, zps, zp, two32, w64, -getElem?_pos, k_cnt, k_cnt0]
  · rw [T20_6]
    simp only [sl20f, ob20f, fbox, frC, rowS, sU, sN, box, slF, cpF, tagdF, inB, nuL, allF, numsF, szF, aheadF, row] at h36 hl ht ⊢
    generalize uL a9 = q at *
    generalize loopC (m21b0 (sem tab (N + 100) (d + 3)) (N + 100) []) _ = g
    simp at h36 hl ht
    simp -implicitDefEqProofs (maxSteps := 1000000) (disch := first | omega | rfl) [m21b0, u2, u3, u4, u5, v0, v1, v2, v3, v4, v5, v6, x1, x2, x3, x4, hl, ht, h36, boxO, fin, resOs, refsOuts, refsX, outOs, outX, resO, one, KF, KS, getS, getO, gS, zipN, dropW, takeW, wds, stvs, sea, seaL, refs, refsL, refsEls, refsO, isPureEls, isPures, isPure, noExt, noExts, noExtEls, cellsL, ren, renL, renEls, keepO, keepS, keysO, refsS, refsOB, headC, setS, boxO, row, putW, putB, putB1, eNl, newOs, frz, renO, noExtO, zps, zp, two32, w64, -getElem?_pos, k_cnt, k_cnt0]
end
section
attribute [local congr] bnd_cg bndO_cg br_cg
section
variable (ob : OB) (o i n v : Nat)
theorem k_slcAl : slc ob (.arr n) (.p o 0 0 i none) none none none = slB o i 0 n (some 0) (some n) := rfl
theorem k_slBl : slB o i 0 32 (some 0) (some 32) = some (.bs o i 0 32, []) := by simp [slB]
theorem k_cont_bsf (m : Nat) : cont ob (.bs o v i m) = contB (blobAt (atO (getO ob o) 0 0 v)) i m := rfl
theorem k_contBs (xs : List PV) : contB (some xs) o n = if o + n ≤ xs.length then some (true, ((xs.drop o).take n).map fun v => [v]) else none := rfl
theorem k_blobAts (xs r : List PV) : blobAt (some (.blob n xs :: r)) = some xs := rfl
def KVl := And.intro @k_slcAl (And.intro @k_slBl (And.intro @k_cont_bsf (And.intro @k_contBs @k_blobAts)))
end
theorem map_uf (h : List Int) : (uL h).map (fun v => [v]) = byL h := by simp [uL, byL]
theorem aheadF_le (k : Int) : 4 ≤ aheadF k ∧ aheadF k ≤ 22 := by
  unfold aheadF
  repeat' split
  all_goals omega
set_option maxHeartbeats 8000000 in
/-- The bytes that its tag is of. -/
theorem V17 (N d : Nat) (f : Fra) (o : okF f) : sem tab (N + 100) (d + 5) 10 [.agg (frC f)] [] = cond (plainF f && tagdF f.kind) (some (.sl 0 0 0 (aheadF f.kind), [row (byL (frontF f)) 1 true])) (some (.sl 0 0 0 0, [row [] 1 true])) := by
  rw [sem_succ tab (N + 100) (d + 4) 10 m10 rfl]
  have h19 := V19 (N + 94) d f o.tag
  rw [show N + 94 + 6 = N + 100 by omega] at h19
  cases hp : plainF f
  · rw [hp] at h19
    obtain ⟨a1, a2, a3, a4, a5, a6, a7, a8, a9⟩ := f
    simp only [frC, cond_false, Bool.false_and, row] at h19 ⊢
    generalize uL a9 = q at *
    simp -implicitDefEqProofs (maxSteps := 1000000) (disch := first | omega | rfl) [m10, h19, boxO, KF, KS, getS, getO, gS, zipN, dropW, takeW, wds, stvs, sea, seaL, refs, refsL, refsEls, refsO, isPureEls, isPures, isPure, noExt, noExts, noExtEls, cellsL, ren, renL, renEls, keepO, keepS, keysO, refsS, refsOB, headC, setS, boxO, row, putW, putB, putB1, eNl, newOs, frz, renO, noExtO, zps, zp, two32, w64, -getElem?_pos, k_cnt, k_cnt0]
  · rw [hp] at h19
    have h20 := V20 N d f ((plainF_iff f).1 hp) o
    have hl := byL_len (frontF f)
    rw [frontF_len] at hl
    have t1 : List.take (aheadF f.kind) (byL (frontF f)) = byL (frontF f) := List.take_of_length_le (by omega)
    generalize byL (frontF f) = b at *
    generalize aheadF f.kind = n at *
    generalize tagdF f.kind = t at *
    obtain ⟨a1, a2, a3, a4, a5, a6, a7, a8, a9⟩ := f
    simp only [frC, row, Bool.true_and] at *
    generalize uL a9 = q at *
    cases t <;>
    simp -implicitDefEqProofs (maxSteps := 1000000) (disch := first | omega | rfl) [m10, h19, h20, hl, t1, boxO, KF, KS, getS, getO, gS, zipN, dropW, takeW, wds, stvs, sea, seaL, refs, refsL, refsEls, refsO, isPureEls, isPures, isPure, noExt, noExts, noExtEls, cellsL, ren, renL, renEls, keepO, keepS, keysO, refsS, refsOB, headC, setS, boxO, row, putW, putB, putB1, eNl, newOs, frz, renO, noExtO, zps, zp, two32, w64, -getElem?_pos, k_cnt, k_cnt0]
end
section
theorem eSt_frn (neg : Bool) (f g : Fra) (hf : f.tag.length = 32) (hg : g.tag.length = 32) : eSt neg [.i, .i, .i, .i, .i, .i, .i, .i, .a 32] (.agg (frC f)) (.agg (frC g)) = some (.b (eqFr f g ^^ neg)) := by
  have h := eqIs_uL f.tag g.tag (by rw [hf, hg])
  simp only [eSt, frC, eqSh, eqS1, if_pos rfl, andRR, andR, and_self, h, notR, eqFr]
  simp
end
section
attribute [local congr] bnd_cg bndO_cg br_cg
/-- A frame's tag, by a key; may it have one? -/
noncomputable def tX (key : List Int) (f : Fra) : List Int := tagI key (frontF f)
def canX (f : Fra) : Bool := plainF f && tagdF f.kind
noncomputable def outT (key : List Int) (f : Fra) : Option R := cond (canX f) (some (.tup [.agg [.blob 32 (uL (tX key f))], .b true], [])) (some (.tup [.agg [.blob 32 (uL z32)], .b false], []))
theorem tX_len (key : List Int) (f : Fra) : (tX key f).length = 32 := tagI_len _ _
theorem V10X (M d : Nat) (f : Fra) (o : okF f) : sem tab (M + 1000) (d + 9) 10 [.agg (frC f)] [] = cond (canX f) (some (.sl 0 0 0 (aheadF f.kind), [row (byL (frontF f)) 1 true])) (some (.sl 0 0 0 0, [row [] 1 true])) := V17 (M + 900) (d + 4) f o
theorem take_k (h : List Int) (hl : h.length = 32) : (uL h).take 32 = uL h := List.take_of_length_le (by rw [uL_len, hl]; exact Nat.le_refl _)
set_option maxHeartbeats 8000000 in
theorem V27s (M d : Nat) (key : List Int) (f : Fra) (hk : key.length = 32) (o : okF f) : sem tab (M + 1000) (d + 10) 27 [.agg [.blob 32 (uL key)], .agg (frC f)] [] = outT key f := by
  rw [sem_succ tab (M + 1000) (d + 9) 27 m27 rfl]
  have h17 := V10X M d f o
  have ha := aheadF_le f.kind
  have fl := byL_len (frontF f)
  rw [frontF_len] at fl
  have h30 := L30 M d key (frontF f) (by omega) (by rw [frontF_len]; omega)
  have tf : List.take (aheadF f.kind) (byL (frontF f)) = byL (frontF f) := List.take_of_length_le (by omega)
  have kl := uL_len key
  rw [hk] at kl
  have tk := take_k key hk
  have mk := map_uf key
  have zl : ((aheadF f.kind : Int) == 0) = false := by rw [beq_eq_false_iff_ne]; omega
  have hu' := uz32.symm
  have zl2 : (uL z32).length = 32 := by rw [uL_len]; rfl
  have xl : (uL (tagI key (frontF f))).length = 32 := by rw [uL_len, tagI_len]
  unfold outT tX
  cases c : canX f <;> rw [c] at h17 <;> simp only [cond_true, cond_false] at h17 ⊢
  · clear h30 tf fl
    obtain ⟨a1, a2, a3, a4, a5, a6, a7, a8, a9⟩ := f
    simp only [frC, row] at *
    generalize uL a9 = q at *
    generalize uL key = u at *
    generalize uL z32 = z at *
    simp -implicitDefEqProofs (maxSteps := 1000000) (disch := first | omega | rfl) [m27, h17, kl, zl2, hu', -List.reduceReplicate, boxO, KVl, KF, KS, getS, getO, gS, zipN, dropW, takeW, wds, stvs, sea, seaL, refs, refsL, refsEls, refsO, isPureEls, isPures, isPure, noExt, noExts, noExtEls, cellsL, ren, renL, renEls, keepO, keepS, keysO, refsS, refsOB, headC, setS, boxO, row, putW, putB, putB1, eNl, newOs, frz, renO, noExtO, zps, zp, two32, w64, -getElem?_pos, k_cnt, k_cnt0]
  · generalize uL (tagI key (frontF f)) = X at *
    generalize byL (frontF f) = y at *
    generalize aheadF f.kind = n at *
    generalize byL key = bk at *
    obtain ⟨a1, a2, a3, a4, a5, a6, a7, a8, a9⟩ := f
    simp only [frC, row] at *
    generalize uL a9 = q at *
    generalize uL key = u at *
    generalize uL z32 = z at *
    simp -implicitDefEqProofs (maxSteps := 1000000) (disch := first | omega | rfl) [m27, h17, h30, kl, tk, mk, fl, tf, zl, zl2, xl, hu', -List.reduceReplicate, boxO, KVl, KF, KS, getS, getO, gS, zipN, dropW, takeW, wds, stvs, sea, seaL, refs, refsL, refsEls, refsO, isPureEls, isPures, isPure, noExt, noExts, noExtEls, cellsL, ren, renL, renEls, keepO, keepS, keysO, refsS, refsOB, headC, setS, boxO, row, putW, putB, putB1, eNl, newOs, frz, renO, noExtO, zps, zp, two32, w64, -getElem?_pos, k_cnt, k_cnt0]
set_option maxHeartbeats 8000000 in
theorem V13s (M d : Nat) (key : List Int) (f : Fra) (hk : key.length = 32) (o : okF f) : sem tab (M + 1000) (d + 11) 13 [.agg [.blob 32 (uL key)], .agg (frC f)] [] = outT key f := by
  rw [sem_succ tab (M + 1000) (d + 10) 13 m13 rfl]
  have h27 := V27s M d key f hk o
  have kl := uL_len key
  rw [hk] at kl
  have hu' := uz32.symm
  have zl2 : (uL z32).length = 32 := by rw [uL_len]; rfl
  have xl : (uL (tX key f)).length = 32 := by rw [uL_len, tX_len]
  unfold outT at *
  cases c : canX f <;> rw [c] at h27 <;> simp only [cond_true, cond_false] at h27 ⊢
  · obtain ⟨a1, a2, a3, a4, a5, a6, a7, a8, a9⟩ := f
    simp only [frC, row] at *
    generalize uL a9 = q at *
    generalize uL key = u at *
    generalize uL z32 = z at *
    simp -implicitDefEqProofs (maxSteps := 1000000) (disch := first | omega | rfl) [m13, h27, kl, zl2, hu', -List.reduceReplicate, boxO, KVl, KF, KS, getS, getO, gS, zipN, dropW, takeW, wds, stvs, sea, seaL, refs, refsL, refsEls, refsO, isPureEls, isPures, isPure, noExt, noExts, noExtEls, cellsL, ren, renL, renEls, keepO, keepS, keysO, refsS, refsOB, headC, setS, boxO, row, putW, putB, putB1, eNl, newOs, frz, renO, noExtO, zps, zp, two32, w64, -getElem?_pos, k_cnt, k_cnt0]
  · generalize uL (tX key f) = X at *
    obtain ⟨a1, a2, a3, a4, a5, a6, a7, a8, a9⟩ := f
    simp only [frC, row] at *
    generalize uL a9 = q at *
    generalize uL key = u at *
    generalize uL z32 = z at *
    simp -implicitDefEqProofs (maxSteps := 1000000) (disch := first | omega | rfl) [m13, h27, kl, zl2, xl, hu', -List.reduceReplicate, boxO, KVl, KF, KS, getS, getO, gS, zipN, dropW, takeW, wds, stvs, sea, seaL, refs, refsL, refsEls, refsO, isPureEls, isPures, isPure, noExt, noExts, noExtEls, cellsL, ren, renL, renEls, keepO, keepS, keysO, refsS, refsOB, headC, setS, boxO, row, putW, putB, putB1, eNl, newOs, frz, renO, noExtO, zps, zp, two32, w64, -getElem?_pos, k_cnt, k_cnt0]
theorem k_ca28 (Φ : Sem') (ob : OB) (d f k : Nat) (u : List PV) (a1 a2 a3 a4 a5 a6 a7 a8 : Int) (q : List PV) : ca Φ ob d false f [.agg [.i .i64 a1, .i .i64 a2, .i .u64 a3, .i .u64 a4, .i .i64 a5, .i .u64 a6, .i .i64 a7, .i .i64 a8, .blob 32 q], .fn k [.agg [.blob 32 u]] []] = ca0R ob d [] (Φ f [.agg [.i .i64 a1, .i .i64 a2, .i .u64 a3, .i .u64 a4, .i .i64 a5, .i .u64 a6, .i .i64 a7, .i .i64 a8, .blob 32 q], .fn k [.agg [.blob 32 u]] []] []) := by
  have e : reifies ob [.agg [.i .i64 a1, .i .i64 a2, .i .u64 a3, .i .u64 a4, .i .i64 a5, .i .u64 a6, .i .i64 a7, .i .i64 a8, .blob 32 q], .fn k [.agg [.blob 32 u]] []] = some ([.agg [.i .i64 a1, .i .i64 a2, .i .u64 a3, .i .u64 a4, .i .i64 a5, .i .u64 a6, .i .i64 a7, .i .i64 a8, .blob 32 q], .fn k [.agg [.blob 32 u]] []], []) := by simp [reifies, reify, reifyL, reify0]
  have r : reach ob 20 (refsL [.agg [.i .i64 a1, .i .i64 a2, .i .u64 a3, .i .u64 a4, .i .i64 a5, .i .u64 a6, .i .i64 a7, .i .i64 a8, .blob 32 q], PV.fn k [.agg [.blob 32 u]] []]) [] = some [] := by simp [refsL, refs, reach]
  unfold ca
  simp only [hand, Bool.false_eq_true, if_false, e, r]
  cases Φ f [.agg [.i .i64 a1, .i .i64 a2, .i .u64 a3, .i .u64 a4, .i .i64 a5, .i .u64 a6, .i .i64 a7, .i .i64 a8, .blob 32 q], .fn k [.agg [.blob 32 u]] []] [] <;> rfl
theorem k_cav28 (Φ : Sem') (ob : OB) (d k : Nat) (u : List PV) (a1 a2 a3 a4 a5 a6 a7 a8 : Int) (q : List PV) : cav Φ ob d false (.fn k [.agg [.blob 32 u]] []) [.agg [.i .i64 a1, .i .i64 a2, .i .u64 a3, .i .u64 a4, .i .i64 a5, .i .u64 a6, .i .i64 a7, .i .i64 a8, .blob 32 q]] = ca0R ob d [] (Φ k [.agg [.blob 32 u], .agg [.i .i64 a1, .i .i64 a2, .i .u64 a3, .i .u64 a4, .i .i64 a5, .i .u64 a6, .i .i64 a7, .i .i64 a8, .blob 32 q]] []) := by
  have e : reifies ob [.agg [.blob 32 u], .agg [.i .i64 a1, .i .i64 a2, .i .u64 a3, .i .u64 a4, .i .i64 a5, .i .u64 a6, .i .i64 a7, .i .i64 a8, .blob 32 q]] = some ([.agg [.blob 32 u], .agg [.i .i64 a1, .i .i64 a2, .i .u64 a3, .i .u64 a4, .i .i64 a5, .i .u64 a6, .i .i64 a7, .i .i64 a8, .blob 32 q]], []) := by simp [reifies, reify, reifyL, reify0]
  have r : reach ob 20 (refsL [PV.agg [.blob 32 u], .agg [.i .i64 a1, .i .i64 a2, .i .u64 a3, .i .u64 a4, .i .i64 a5, .i .u64 a6, .i .i64 a7, .i .i64 a8, .blob 32 q]]) [] = some [] := by simp [refsL, refs, reach]
  simp only [cav, List.cons_append, List.nil_append]
  unfold ca
  simp only [hand, Bool.false_eq_true, if_false, e, r]
  cases Φ k [.agg [.blob 32 u], .agg [.i .i64 a1, .i .i64 a2, .i .u64 a3, .i .u64 a4, .i .i64 a5, .i .u64 a6, .i .i64 a7, .i .i64 a8, .blob 32 q]] [] <;> rfl
noncomputable def outSl (key : List Int) (f : Fra) : Option R := cond (canX f) (some (.tup [.agg (frC { f with tag := tX key f }), .b true], [])) (some (.tup [.agg (frC zeF), .b false], []))
set_option maxHeartbeats 8000000 in
theorem V28s (M d : Nat) (key : List Int) (f : Fra) (hk : key.length = 32) (o : okF f) : sem tab (M + 1000) (d + 11) 28 [.agg (frC f), .fn 27 [.agg [.blob 32 (uL key)]] []] [] = outSl key f := by
  rw [sem_succ tab (M + 1000) (d + 10) 28 m28 rfl]
  have h27 := V27s M d key f hk o
  have hu' := uz32.symm
  have zl2 : (uL z32).length = 32 := by rw [uL_len]; rfl
  have xl : (uL (tX key f)).length = 32 := by rw [uL_len, tX_len]
  have fl := uL_len f.tag
  rw [o.tag] at fl
  unfold outT at h27
  unfold outSl
  cases c : canX f <;> rw [c] at h27 <;> simp only [cond_true, cond_false] at h27 ⊢
  · obtain ⟨a1, a2, a3, a4, a5, a6, a7, a8, a9⟩ := f
    simp only [frC, zeF, row] at *
    generalize uL a9 = q at *
    generalize uL key = u at *
    generalize uL z32 = z at *
    simp -implicitDefEqProofs (maxSteps := 1000000) (disch := first | omega | rfl) [m28, h27, k_cav28, zl2, fl, hu', -List.reduceReplicate, boxO, KVl, KF, KS, getS, getO, gS, zipN, dropW, takeW, wds, stvs, sea, seaL, refs, refsL, refsEls, refsO, isPureEls, isPures, isPure, noExt, noExts, noExtEls, cellsL, ren, renL, renEls, keepO, keepS, keysO, refsS, refsOB, headC, setS, boxO, row, putW, putB, putB1, eNl, newOs, frz, renO, noExtO, zps, zp, two32, w64, -getElem?_pos, k_cnt, k_cnt0]
  · generalize tX key f = X at *
    obtain ⟨a1, a2, a3, a4, a5, a6, a7, a8, a9⟩ := f
    simp only [frC, zeF, row] at *
    generalize uL a9 = q at *
    generalize uL X = x at *
    generalize uL key = u at *
    generalize uL z32 = z at *
    simp -implicitDefEqProofs (maxSteps := 1000000) (disch := first | omega | rfl) [m28, h27, k_cav28, zl2, xl, fl, hu', -List.reduceReplicate, boxO, KVl, KF, KS, getS, getO, gS, zipN, dropW, takeW, wds, stvs, sea, seaL, refs, refsL, refsEls, refsO, isPureEls, isPures, isPure, noExt, noExts, noExtEls, cellsL, ren, renL, renEls, keepO, keepS, keysO, refsS, refsOB, headC, setS, boxO, row, putW, putB, putB1, eNl, newOs, frz, renO, noExtO, zps, zp, two32, w64, -getElem?_pos, k_cnt, k_cnt0]
set_option maxHeartbeats 8000000 in
/-- A frame with its tag. -/
theorem V12s (M d : Nat) (key : List Int) (f : Fra) (hk : key.length = 32) (o : okF f) : sem tab (M + 1000) (d + 12) 12 [.agg [.blob 32 (uL key)], .agg (frC f)] [] = outSl key f := by
  rw [sem_succ tab (M + 1000) (d + 11) 12 m12 rfl]
  have h28 := V28s M d key f hk o
  have hu' := uz32.symm
  have kl := uL_len key
  rw [hk] at kl
  have zl2 : (uL z32).length = 32 := by rw [uL_len]; rfl
  have xl : (uL (tX key f)).length = 32 := by rw [uL_len, tX_len]
  have fl := uL_len f.tag
  rw [o.tag] at fl
  unfold outSl at *
  generalize tX key f = X at *
  generalize canX f = c at *
  obtain ⟨a1, a2, a3, a4, a5, a6, a7, a8, a9⟩ := f
  simp only [frC, zeF, row] at *
  generalize uL a9 = q at *
  generalize uL X = x at *
  generalize uL key = u at *
  generalize uL z32 = z at *
  cases c <;> simp only [cond_true, cond_false] at h28 ⊢ <;>
  simp -implicitDefEqProofs (maxSteps := 1000000) (disch := first | omega | rfl) [m12, h28, k_ca28, kl, zl2, xl, fl, hu', -List.reduceReplicate, boxO, KVl, KF, KS, getS, getO, gS, zipN, dropW, takeW, wds, stvs, sea, seaL, refs, refsL, refsEls, refsO, isPureEls, isPures, isPure, noExt, noExts, noExtEls, cellsL, ren, renL, renEls, keepO, keepS, keysO, refsS, refsOB, headC, setS, boxO, row, putW, putB, putB1, eNl, newOs, frz, renO, noExtO, zps, zp, two32, w64, -getElem?_pos, k_cnt, k_cnt0]
end
section
attribute [local congr] bnd_cg bndO_cg br_cg
theorem tX_range (key : List Int) (f : Fra) : ∀ x ∈ tX key f, 0 ≤ x ∧ x ≤ 255 :=
  sumI_range _ (app_range (padI_range _ _) (sumI_range _ (app_range (padI_range _ _) (catB_range (allF f)))))
theorem can_pl {f : Fra} (h : canX f = true) : PlF f ∧ tagdF f.kind = true := by
  unfold canX at h
  rw [Bool.and_eq_true] at h
  exact ⟨(plainF_iff f).1 h.1, h.2⟩
theorem tagd_kind {k : Int} (h : tagdF k = true) : 2 ≤ k ∧ k ≤ 5 := by
  unfold tagdF inB at h
  rw [Bool.and_eq_true, decide_eq_true_eq, decide_eq_true_eq] at h
  exact h
theorem bare_tag (f : Fra) (t : List Int) (h : tagdF f.kind = true) : eqFr (bareF { f with tag := t }) { f with tag := t } = eqFr (bareF f) f := by
  obtain ⟨a1, a2, a3, a4, a5, a6, a7, a8, a9⟩ := f
  have h := tagd_kind h
  simp only at h
  have hk : a1 = 2 ∨ a1 = 3 ∨ a1 = 4 ∨ a1 = 5 := by omega
  rcases hk with e | e | e | e <;> subst e <;> simp [bareF, eqFr]
theorem can_tag (f : Fra) (t : List Int) : canX { f with tag := t } = canX f := by
  unfold canX plainF
  show ((inB f.kind 0 6 && (inB f.user 0 255 && (inB f.epoch 0 1073741824 && (inB f.cmd 0 255 && (inB f.arg 0 65535 && eqFr (bareF { f with tag := t }) { f with tag := t }))))) && tagdF f.kind) = _
  cases h : tagdF f.kind
  · simp
  · rw [bare_tag f t h]
theorem tX_tag (key : List Int) (f : Fra) (t : List Int) : tX key { f with tag := t } = tX key f := rfl
theorem ne_ze {f : Fra} (h : tagdF f.kind = true) : eqFr f zeF = false := by
  apply eqFr_ne
  intro e
  rw [e] at h
  exact absurd h (by decide)
def chkX (own : List Int) (f : Fra) : Int := cond (canX f) (cond (decide (own = f.tag)) 0 7) 3
set_option maxHeartbeats 8000000 in
/-- Is the tag right? -/
theorem V9s (M d : Nat) (key : List Int) (f : Fra) (hk : key.length = 32) (o : okF f) : sem tab (M + 1000) (d + 13) 9 [.agg [.blob 32 (uL key)], .agg (frC f)] [] = some (.i .i64 (chkX (tX key f) f), []) := by
  rw [sem_succ tab (M + 1000) (d + 12) 9 m9 rfl]
  have h12 := V12s M d key f hk o
  have h32 := L32 M (d + 11) (tX key f) f.tag (tX_range key f) o.tagr (by rw [tX_len]; omega)
  have hu' := uz32.symm
  have kl := uL_len key
  rw [hk] at kl
  have zl2 : (uL z32).length = 32 := by rw [uL_len]; rfl
  have xl : (uL (tX key f)).length = 32 := by rw [uL_len, tX_len]
  have fl := uL_len f.tag
  rw [o.tag] at fl
  have tx := take_k (tX key f) (tX_len key f)
  have tf := take_k f.tag o.tag
  have mx := map_uf (tX key f)
  have mf := map_uf f.tag
  have ez := eSt_frn false { f with tag := tX key f } zeF (tX_len key f) z32_len
  unfold outSl at h12
  unfold chkX
  cases c : canX f <;> rw [c] at h12 <;> simp only [cond_true, cond_false] at h12 ⊢
  · clear ez h32 mx mf tx tf xl
    obtain ⟨a1, a2, a3, a4, a5, a6, a7, a8, a9⟩ := f
    simp only [frC, zeF, row] at *
    generalize uL a9 = q at *
    generalize uL key = u at *
    generalize uL z32 = z at *
    simp -implicitDefEqProofs (maxSteps := 1000000) (disch := first | omega | rfl) [m9, h12, kl, zl2, fl, hu', -List.reduceReplicate, boxO, KVl, KF, KS, getS, getO, gS, zipN, dropW, takeW, wds, stvs, sea, seaL, refs, refsL, refsEls, refsO, isPureEls, isPures, isPure, noExt, noExts, noExtEls, cellsL, ren, renL, renEls, keepO, keepS, keysO, refsS, refsOB, headC, setS, boxO, row, putW, putB, putB1, eNl, newOs, frz, renO, noExtO, zps, zp, two32, w64, -getElem?_pos, k_cnt, k_cnt0]
  · rw [ne_ze (f := { f with tag := tX key f }) (can_pl c).2] at ez
    generalize decide (tX key f = f.tag) = e at *
    generalize tX key f = X at *
    obtain ⟨a1, a2, a3, a4, a5, a6, a7, a8, a9⟩ := f
    simp only [frC, zeF, row] at *
    generalize byL X = bx at *
    generalize byL a9 = b9 at *
    generalize uL a9 = q at *
    generalize uL X = x at *
    generalize uL key = u at *
    generalize uL z32 = z at *
    cases e <;> simp only [cond_true, cond_false] <;>
    simp -implicitDefEqProofs (maxSteps := 1000000) (disch := first | omega | rfl) [m9, h12, h32, kl, zl2, xl, fl, tx, tf, mx, mf, ez, hu', -List.reduceReplicate, boxO, KVl, KF, KS, getS, getO, gS, zipN, dropW, takeW, wds, stvs, sea, seaL, refs, refsL, refsEls, refsO, isPureEls, isPures, isPure, noExt, noExts, noExtEls, cellsL, ren, renL, renEls, keepO, keepS, keysO, refsS, refsOB, headC, setS, boxO, row, putW, putB, putB1, eNl, newOs, frz, renO, noExtO, zps, zp, two32, w64, -getElem?_pos, k_cnt, k_cnt0]
/-- With another tag ahead of sealing. -/
theorem V12t (M d : Nat) (key : List Int) (f : Fra) (t : List Int) (hk : key.length = 32) (o : okF { f with tag := t }) : sem tab (M + 1000) (d + 12) 12 [.agg [.blob 32 (uL key)], .agg (frC { f with tag := t })] [] = some (cond (canX f) (.tup [.agg (frC { f with tag := tX key f }), .b true]) (.tup [.agg (frC zeF), .b false]), []) := by
  have h := V12s M d key { f with tag := t } hk o
  unfold outSl at h
  rw [can_tag, tX_tag] at h
  rw [h]
  cases canX f <;> rfl
theorem V9t (M d : Nat) (key : List Int) (f : Fra) (t : List Int) (hk : key.length = 32) (o : okF { f with tag := t }) : sem tab (M + 1000) (d + 13) 9 [.agg [.blob 32 (uL key)], .agg (frC { f with tag := t })] [] = some (.i .i64 (cond (canX f) (cond (decide (tX key f = t)) 0 7) 3), []) := by
  have h := V9s M d key { f with tag := t } hk o
  unfold chkX at h
  rw [can_tag, tX_tag] at h
  exact h
theorem okF_tag {f : Fra} (o : okF f) (t : List Int) (h : t.length = 32) (r : ∀ x ∈ t, 0 ≤ x ∧ x ≤ 255) : okF { f with tag := t } := ⟨o.sess, o.cn, o.count, h, r⟩
def key1 : List Int := 1 :: List.replicate 31 0
def fra2 : Fra := ⟨2, 0, 5, 0, 0, 0, 0, 0, z32⟩
set_option maxHeartbeats 8000000 in
theorem awakeS (M d : Nat) : sem tab (M + 1000) (d + 14) 8 [] [] = some (.b true, []) := by
  rw [sem_succ tab (M + 1000) (d + 13) 8 m8 rfl]
  have o2 : okF fra2 := ⟨by decide, by decide, by decide, z32_len, z32_range⟩
  have hk1 : key1.length = 32 := rfl
  have c2 : canX fra2 = true := by decide
  have cz : canX zeF = false := by decide
  have oX := okF_tag o2 (tX key1 fra2) (tX_len _ _) (tX_range _ _)
  have s1 := V12t M (d + 1) key1 fra2 z32 hk1 o2
  have s2 := V12t M (d + 1) key1 fra2 (tX key1 fra2) hk1 oX
  have s3 := V12s M (d + 1) key1 zeF hk1 okF_ze
  have k1 := V9t M d key1 fra2 (tX key1 fra2) hk1 oX
  have k2 := V9s M d key1 zeF hk1 okF_ze
  unfold outSl at s3
  unfold chkX at k2
  rw [cz, cond_false] at s3 k2
  rw [c2, cond_true] at s1 s2 k1
  rw [decide_eq_true rfl, cond_true] at k1
  have es := eSt_frn false ⟨2, 0, 5, 0, 0, 0, 0, 0, tX key1 fra2⟩ ⟨2, 0, 5, 0, 0, 0, 0, 0, tX key1 fra2⟩ (tX_len _ _) (tX_len _ _)
  rw [eqFr_self] at es
  have xl : (uL (tX key1 fra2)).length = 32 := by rw [uL_len, tX_len]
  have hu' := uz32.symm
  have zl2 : (uL z32).length = 32 := by rw [uL_len]; rfl
  have uk : uL key1 = (.i .u8 1) :: List.replicate 31 (.i .u8 0) := rfl
  have ks : (uL z32).set 0 (.i .u8 1) = uL key1 := rfl
  generalize tX key1 fra2 = X at *
  simp only [show fra2.kind = 2 from rfl, show fra2.user = 0 from rfl, show fra2.sess = 5 from rfl, show fra2.cn = 0 from rfl, show fra2.epoch = 0 from rfl, show fra2.count = 0 from rfl, show fra2.cmd = 0 from rfl, show fra2.arg = 0 from rfl] at s1 s2 k1
  simp only [frC, zeF] at *
  generalize uL X = x at *
  clear uk
  generalize uL key1 = u at *
  generalize uL z32 = z at *
  simp -implicitDefEqProofs (maxSteps := 1000000) (disch := first | omega | rfl) [m8, s1, s2, s3, k1, k2, es, xl, zl2, ks, hu', -List.reduceReplicate, boxO, KVl, KF, KS, getS, getO, gS, zipN, dropW, takeW, wds, stvs, sea, seaL, refs, refsL, refsEls, refsO, isPureEls, isPures, isPure, noExt, noExts, noExtEls, cellsL, ren, renL, renEls, keepO, keepS, keysO, refsS, refsOB, headC, setS, boxO, row, putW, putB, putB1, eNl, newOs, frz, renO, noExtO, zps, zp, two32, w64, -getElem?_pos, k_cnt, k_cnt0]
end
section
attribute [local congr] bnd_cg bndO_cg br_cg
theorem R53_0 (N d : Nat) (a2 a3 a4 a5 a6 a7 a8 : Int) (a9 : List Int) : sem tab N (d + 1) 53 [.agg (frC ⟨0, a2, a3, a4, a5, a6, a7, a8, a9⟩)] [] = some (.tup [.sl 0 0 0 2, .b false], [row (nuL [(IntKind.u64.wrap a2, 1), (a4, 8)]) 2 true]) := by
  kernel_rfl
theorem R53_1 (N d : Nat) (a2 a3 a4 a5 a6 a7 a8 : Int) (a9 : List Int) : sem tab N (d + 1) 53 [.agg (frC ⟨1, a2, a3, a4, a5, a6, a7, a8, a9⟩)] [] = some (.tup [.sl 0 0 0 2, .b false], [row (nuL [(a3, 8), (IntKind.u64.wrap a5, 4)]) 2 true]) := by
  kernel_rfl
theorem R53_2 (N d : Nat) (a2 a3 a4 a5 a6 a7 a8 : Int) (a9 : List Int) : sem tab N (d + 1) 53 [.agg (frC ⟨2, a2, a3, a4, a5, a6, a7, a8, a9⟩)] [] = some (.tup [.sl 0 0 0 1, .b true], [row (nuL [(a3, 8)]) 2 true]) := by
  kernel_rfl
theorem R53_3 (N d : Nat) (a2 a3 a4 a5 a6 a7 a8 : Int) (a9 : List Int) : sem tab N (d + 1) 53 [.agg (frC ⟨3, a2, a3, a4, a5, a6, a7, a8, a9⟩)] [] = some (.tup [.sl 0 0 0 1, .b true], [row (nuL [(a3, 8)]) 2 true]) := by
  kernel_rfl
theorem R53_4 (N d : Nat) (a2 a3 a4 a5 a6 a7 a8 : Int) (a9 : List Int) : sem tab N (d + 1) 53 [.agg (frC ⟨4, a2, a3, a4, a5, a6, a7, a8, a9⟩)] [] = some (.tup [.sl 0 0 0 4, .b true], [row (nuL [(a3, 8), (a6, 8), (IntKind.u64.wrap a7, 1), (IntKind.u64.wrap a8, 2)]) 2 true]) := by
  kernel_rfl
theorem R53_5 (N d : Nat) (a2 a3 a4 a5 a6 a7 a8 : Int) (a9 : List Int) : sem tab N (d + 1) 53 [.agg (frC ⟨5, a2, a3, a4, a5, a6, a7, a8, a9⟩)] [] = some (.tup [.sl 0 0 0 4, .b true], [row (nuL [(a3, 8), (a6, 8), (IntKind.u64.wrap a7, 1), (IntKind.u64.wrap a8, 2)]) 2 true]) := by
  kernel_rfl
theorem R53_6 (N d : Nat) (a2 a3 a4 a5 a6 a7 a8 : Int) (a9 : List Int) : sem tab N (d + 1) 53 [.agg (frC ⟨6, a2, a3, a4, a5, a6, a7, a8, a9⟩)] [] = some (.tup [.sl 0 0 0 1, .b false], [row (nuL [(IntKind.u64.wrap a7, 1)]) 2 true]) := by
  kernel_rfl
/-- The frame's numbers lie in their bounds. -/
structure BdF (f : Fra) : Prop where
  kind : inB f.kind 0 6 = true
  user : 0 ≤ f.user ∧ f.user ≤ 255
  epoch : 0 ≤ f.epoch ∧ f.epoch ≤ 1073741824
  cmd : 0 ≤ f.cmd ∧ f.cmd ≤ 255
  arg : 0 ≤ f.arg ∧ f.arg ≤ 65535
theorem R53 (N d : Nat) (f : Fra) (h : BdF f) : sem tab N (d + 1) 53 [.agg (frC f)] [] = some (.tup [.sl 0 0 0 (numsF f).length, .b (tagdF f.kind)], [row (nuL (numsF f)) 2 true]) := by
  have hk := kinds h.kind
  obtain ⟨_, h2, h3, h4, h5⟩ := h
  obtain ⟨a1, a2, a3, a4, a5, a6, a7, a8, a9⟩ := f
  simp only at hk h2 h3 h4 h5
  have u2 := wu64 h2.1 (by omega)
  have u3 := wu64 h3.1 (by omega)
  have u4 := wu64 h4.1 (by omega)
  have u5 := wu64 h5.1 (by omega)
  rcases hk with e | e | e | e | e | e | e <;> subst e
  · rw [R53_0, u2]; rfl
  · rw [R53_1, u3]; rfl
  · rw [R53_2]; rfl
  · rw [R53_3]; rfl
  · rw [R53_4, u4, u5]; rfl
  · rw [R53_5, u4, u5]; rfl
  · rw [R53_6, u4]; rfl
/-- What is made of numbers. -/
def u64L (l : List Int) : List (List PV) := l.map fun n => [.i .u64 n]
theorem R54_0 (N d : Nat) (x y : Int) : sem tab N (d + 1) 54 [.i .i64 0, .l false (u64L [x, y])] [] = some (.agg (frC ⟨0, IntKind.i64.wrap x, 0, y, 0, 0, 0, 0, z32⟩), []) := by
  kernel_rfl
theorem R54_1 (N d : Nat) (x y : Int) : sem tab N (d + 1) 54 [.i .i64 1, .l false (u64L [x, y])] [] = some (.agg (frC ⟨1, 0, x, 0, IntKind.i64.wrap y, 0, 0, 0, z32⟩), []) := by
  kernel_rfl
theorem R54_2 (N d : Nat) (x : Int) : sem tab N (d + 1) 54 [.i .i64 2, .l false (u64L [x])] [] = some (.agg (frC ⟨2, 0, x, 0, 0, 0, 0, 0, z32⟩), []) := by
  kernel_rfl
theorem R54_3 (N d : Nat) (x : Int) : sem tab N (d + 1) 54 [.i .i64 3, .l false (u64L [x])] [] = some (.agg (frC ⟨3, 0, x, 0, 0, 0, 0, 0, z32⟩), []) := by
  kernel_rfl
theorem R54_4 (N d : Nat) (x y z w : Int) : sem tab N (d + 1) 54 [.i .i64 4, .l false (u64L [x, y, z, w])] [] = some (.agg (frC ⟨4, 0, x, 0, 0, y, IntKind.i64.wrap z, IntKind.i64.wrap w, z32⟩), []) := by
  kernel_rfl
theorem R54_5 (N d : Nat) (x y z w : Int) : sem tab N (d + 1) 54 [.i .i64 5, .l false (u64L [x, y, z, w])] [] = some (.agg (frC ⟨5, 0, x, 0, 0, y, IntKind.i64.wrap z, IntKind.i64.wrap w, z32⟩), []) := by
  kernel_rfl
theorem R54_6 (N d : Nat) (x : Int) : sem tab N (d + 1) 54 [.i .i64 6, .l false (u64L [x])] [] = some (.agg (frC ⟨6, 0, 0, 0, 0, 0, IntKind.i64.wrap x, 0, z32⟩), []) := by
  kernel_rfl
def bareU (f : Fra) : Fra := { bareF f with tag := z32 }
theorem wi64 {n : Int} (h0 : 0 ≤ n) (h1 : n ≤ 1073741824) : IntKind.i64.wrap n = n := by rw [IntKind.wrap_i64]; omega
/-- What is made of a frame's numbers: its bare form, without the tag. -/
theorem R54 (N d : Nat) (f : Fra) (h : BdF f) : sem tab N (d + 1) 54 [.i .i64 f.kind, .l false (u64L ((numsF f).map (·.1)))] [] = some (.agg (frC (bareU f)), []) := by
  have hk := kinds h.kind
  obtain ⟨_, h2, h3, h4, h5⟩ := h
  obtain ⟨a1, a2, a3, a4, a5, a6, a7, a8, a9⟩ := f
  simp only at hk h2 h3 h4 h5
  have u2 := wi64 h2.1 (by omega)
  have u3 := wi64 h3.1 (by omega)
  have u4 := wi64 h4.1 (by omega)
  have u5 := wi64 h5.1 (by omega)
  rcases hk with e | e | e | e | e | e | e <;> subst e
  · have := R54_0 N d a2 a4; rw [u2] at this; exact this
  · have := R54_1 N d a3 a5; rw [u3] at this; exact this
  · exact R54_2 N d a3
  · exact R54_3 N d a3
  · have := R54_4 N d a3 a6 a7 a8; rw [u4, u5] at this; exact this
  · have := R54_5 N d a3 a6 a7 a8; rw [u4, u5] at this; exact this
  · have := R54_6 N d a7; rw [u4] at this; exact this
def sl44 (t : Bool) (n i : Nat) : SL := [(1, .p 72 0 0 0 none), (3, .sl 528 0 0 n), (4, .b t), (5, .sl 111 0 0 i), (6, .i .i64 i)]
def ob44 (f : Fra) (l : List (Int × Nat)) (r : List Int) : OB := [(111, row (u64L r) 1 true), (72, fbox f), (528, row (nuL l) 2 true)]
theorem L44_1 (Φ : Sem') (N M : Nat) (t : Bool) (f : Fra) (x : Int) (k : Nat) : m44b0 Φ N [] (loopC (m44b0 Φ N []) (M + 1)) (sl44 t 1 0) (ob44 f [(x, k)] []) = m44b0 Φ N [] (loopC (m44b0 Φ N []) M) (sl44 t 1 1) (ob44 f [(x, k)] [x]) := by
  kernel_rfl
theorem L44_2 (Φ : Sem') (N M : Nat) (t : Bool) (f : Fra) (x y : Int) (k l : Nat) : m44b0 Φ N [] (loopC (m44b0 Φ N []) (M + 2)) (sl44 t 2 0) (ob44 f [(x, k), (y, l)] []) = m44b0 Φ N [] (loopC (m44b0 Φ N []) M) (sl44 t 2 2) (ob44 f [(x, k), (y, l)] [x, y]) := by
  kernel_rfl
theorem L44_4 (Φ : Sem') (N M : Nat) (t : Bool) (f : Fra) (x y z w : Int) (k l m n : Nat) : m44b0 Φ N [] (loopC (m44b0 Φ N []) (M + 4)) (sl44 t 4 0) (ob44 f [(x, k), (y, l), (z, m), (w, n)] []) = m44b0 Φ N [] (loopC (m44b0 Φ N []) M) (sl44 t 4 4) (ob44 f [(x, k), (y, l), (z, m), (w, n)] [x, y, z, w]) := by
  kernel_rfl
theorem lp44 (Φ : Sem') (N M : Nat) (t : Bool) (f : Fra) : ∃ M', m44b0 Φ N [] (loopC (m44b0 Φ N []) (M + 4)) (sl44 t (numsF f).length 0) (ob44 f (numsF f) []) = m44b0 Φ N [] (loopC (m44b0 Φ N []) M') (sl44 t (numsF f).length (numsF f).length) (ob44 f (numsF f) ((numsF f).map (·.1))) := by
  unfold numsF
  repeat' split
  · exact ⟨_, L44_2 Φ N (M + 2) t f _ _ _ _⟩
  · exact ⟨_, L44_2 Φ N (M + 2) t f _ _ _ _⟩
  · exact ⟨_, L44_1 Φ N (M + 3) t f _ _⟩
  · exact ⟨_, L44_1 Φ N (M + 3) t f _ _⟩
  · exact ⟨_, L44_4 Φ N M t f _ _ _ _ _ _ _ _⟩
  · exact ⟨_, L44_4 Φ N M t f _ _ _ _ _ _ _ _⟩
  · exact ⟨_, L44_1 Φ N (M + 3) t f _ _⟩
theorem u64L_len (l : List Int) : (u64L l).length = l.length := by simp [u64L]
theorem bare_tagged (f : Fra) (h : tagdF f.kind = true) : ({ bareU f with tag := f.tag } : Fra) = bareF f := by
  have h := tagd_kind h
  obtain ⟨a1, a2, a3, a4, a5, a6, a7, a8, a9⟩ := f
  simp only at h
  have hk : a1 = 2 ∨ a1 = 3 ∨ a1 = 4 ∨ a1 = 5 := by omega
  rcases hk with e | e | e | e <;> subst e <;> rfl
theorem bare_not (f : Fra) (hk : inB f.kind 0 6 = true) (h : tagdF f.kind = false) : bareU f = bareF f := by
  have hk := kinds hk
  obtain ⟨a1, a2, a3, a4, a5, a6, a7, a8, a9⟩ := f
  simp only at h hk
  rcases hk with e | e | e | e | e | e | e <;> subst e <;> first | rfl | (exact absurd h (by decide))
theorem bareU_tag (f : Fra) : (bareU f).tag = z32 := rfl
set_option maxHeartbeats 8000000 in
theorem end44 (N d : Nat) (g : SL → OB → Option R) (f : Fra) (h : BdF f) (o : okF f) : m44b0 (sem tab N (d + 1)) N [] g (sl44 (tagdF f.kind) (numsF f).length (numsF f).length) (ob44 f (numsF f) ((numsF f).map (·.1))) = some (.b (eqFr (bareF f) f), []) := by
  have h54 := R54 N d f h
  have hl := u64L_len ((numsF f).map (·.1))
  rw [List.length_map] at hl
  have ht : List.take (numsF f).length (u64L ((numsF f).map (·.1))) = u64L ((numsF f).map (·.1)) := List.take_of_length_le (by omega)
  have zl2 : (uL z32).length = 32 := by rw [uL_len]; rfl
  have fl : (uL f.tag).length = 32 := by rw [uL_len, o.tag]
  have hu' := uz32.symm
  have ut := bareU_tag f
  unfold sl44 ob44
  generalize u64L ((numsF f).map (·.1)) = r at *
  generalize nuL (numsF f) = s at *
  generalize (numsF f).length = n at *
  cases t : tagdF f.kind
  · have es := eSt_frn false (bareU f) f (by rw [ut]; rfl) o.tag
    rw [bare_not f h.kind t] at es h54 ut
    have bt := bareF_tag f o.tag
    generalize eqFr (bareF f) f = e at *
    generalize bareF f = b at *
    obtain ⟨b1, b2, b3, b4, b5, b6, b7, b8, b9⟩ := b
    obtain ⟨a1, a2, a3, a4, a5, a6, a7, a8, a9⟩ := f
    simp only [fbox, box, frC, row] at *
    subst ut
    generalize uL a9 = q at *
    generalize uL z32 = z at *
    simp -implicitDefEqProofs (maxSteps := 1000000) (disch := first | omega | rfl) [m44b0, h54, hl, ht, es, zl2, fl, hu', -List.reduceReplicate, boxO, KVl, KF, KS, getS, getO, gS, zipN, dropW, takeW, wds, stvs, sea, seaL, refs, refsL, refsEls, refsO, isPureEls, isPures, isPure, noExt, noExts, noExtEls, cellsL, ren, renL, renEls, keepO, keepS, keysO, refsS, refsOB, headC, setS, boxO, row, putW, putB, putB1, eNl, newOs, frz, renO, noExtO, zps, zp, two32, w64, -getElem?_pos, k_cnt, k_cnt0]
  · have es := eSt_frn false ({ bareU f with tag := f.tag } : Fra) f o.tag o.tag
    rw [bare_tagged f t] at es
    have e2 : frC (bareF f) = frC ({ bareU f with tag := f.tag } : Fra) := by rw [bare_tagged f t]
    rw [e2] at es
    clear e2
    generalize eqFr (bareF f) f = e at *
    generalize bareU f = b at *
    obtain ⟨b1, b2, b3, b4, b5, b6, b7, b8, b9⟩ := b
    obtain ⟨a1, a2, a3, a4, a5, a6, a7, a8, a9⟩ := f
    simp only [fbox, box, frC, row] at *
    subst ut
    generalize uL a9 = q at *
    generalize uL z32 = z at *
    simp -implicitDefEqProofs (maxSteps := 1000000) (disch := first | omega | rfl) [m44b0, h54, hl, ht, es, zl2, fl, hu', -List.reduceReplicate, boxO, KVl, KF, KS, getS, getO, gS, zipN, dropW, takeW, wds, stvs, sea, seaL, refs, refsL, refsEls, refsO, isPureEls, isPures, isPure, noExt, noExts, noExtEls, cellsL, ren, renL, renEls, keepO, keepS, keysO, refsS, refsOB, headC, setS, boxO, row, putW, putB, putB1, eNl, newOs, frz, renO, noExtO, zps, zp, two32, w64, -getElem?_pos, k_cnt, k_cnt0]
set_option maxHeartbeats 8000000 in
theorem st44 (Φ : Sem') (N : Nat) (f : Fra) (h : BdF f) (t : Bool) (n : Nat) (l : List (List PV)) (hl : l.length = n) (H : Φ 53 [.agg (frC f)] [] = some (.tup [.sl 0 0 0 n, .b t], [row l 2 true])) : m44 Φ (N + 1) [.agg (frC f)] [] = m44b0 Φ (N + 1) [] (loopC (m44b0 Φ (N + 1) []) N) (sl44 t n 0) [(111, row (u64L []) 1 true), (72, fbox f), (528, row l 2 true)] := by
  have hk := kinds h.kind
  obtain ⟨_, p2, p3, p4, p5⟩ := h
  obtain ⟨a1, a2, a3, a4, a5, a6, a7, a8, a9⟩ := f
  simp only at p2 p3 p4 p5 hk
  have c1 : ¬ a1 < 0 := by omega
  have c2 : ¬ a1 ≥ 7 := by omega
  have c3 : ¬ a2 < 0 := by omega
  have c4 : ¬ a2 > 255 := by omega
  have c5 : ¬ a5 < 0 := by omega
  have c6 : ¬ a5 > 1073741824 := by omega
  have c7 : ¬ a7 < 0 := by omega
  have c8 : ¬ a7 > 255 := by omega
  have c9 : ¬ a8 < 0 := by omega
  have ca : ¬ a8 > 65535 := by omega
  simp only [sl44, fbox, box, frC, row, u64L, List.map_nil] at *
  generalize uL a9 = q at *
  simp -implicitDefEqProofs (maxSteps := 1000000) (disch := first | omega | rfl) [m44, H, hl, c1, c2, c3, c4, c5, c6, c7, c8, c9, ca, boxO, KVl, KF, KS, getS, getO, gS, zipN, dropW, takeW, wds, stvs, sea, seaL, refs, refsL, refsEls, refsO, isPureEls, isPures, isPure, noExt, noExts, noExtEls, cellsL, ren, renL, renEls, keepO, keepS, keysO, refsS, refsOB, headC, setS, boxO, row, putW, putB, putB1, eNl, newOs, frz, renO, noExtO, zps, zp, two32, w64, -getElem?_pos, k_cnt, k_cnt0]
theorem pl_bd {f : Fra} (h : PlF f) : BdF f := ⟨h.kind, h.user, h.epoch, h.cmd, h.arg⟩
set_option maxHeartbeats 16000000 in
theorem out44 (Φ : Sem') (N : Nat) (f : Fra) (h : ¬ BdF f) : m44 Φ N [.agg (frC f)] [] = some (.b false, []) := by
  obtain ⟨a1, a2, a3, a4, a5, a6, a7, a8, a9⟩ := f
  simp only [frC]
  generalize uL a9 = q
  by_cases c0 : a1 < 0
  · clear h
    simp -implicitDefEqProofs (maxSteps := 1000000) (disch := first | omega | rfl) [m44, c0, boxO, KVl, KF, KS, getS, getO, gS, zipN, dropW, takeW, wds, stvs, sea, seaL, refs, refsL, refsEls, refsO, isPureEls, isPures, isPure, noExt, noExts, noExtEls, cellsL, ren, renL, renEls, keepO, keepS, keysO, refsS, refsOB, headC, setS, boxO, row, putW, putB, putB1, eNl, newOs, frz, renO, noExtO, zps, zp, two32, w64, -getElem?_pos, k_cnt, k_cnt0]
  by_cases c1 : a1 ≥ 7
  · clear h
    simp -implicitDefEqProofs (maxSteps := 1000000) (disch := first | omega | rfl) [m44, c0, c1, boxO, KVl, KF, KS, getS, getO, gS, zipN, dropW, takeW, wds, stvs, sea, seaL, refs, refsL, refsEls, refsO, isPureEls, isPures, isPure, noExt, noExts, noExtEls, cellsL, ren, renL, renEls, keepO, keepS, keysO, refsS, refsOB, headC, setS, boxO, row, putW, putB, putB1, eNl, newOs, frz, renO, noExtO, zps, zp, two32, w64, -getElem?_pos, k_cnt, k_cnt0]
  by_cases c2 : a2 < 0
  · clear h
    simp -implicitDefEqProofs (maxSteps := 1000000) (disch := first | omega | rfl) [m44, c0, c1, c2, boxO, KVl, KF, KS, getS, getO, gS, zipN, dropW, takeW, wds, stvs, sea, seaL, refs, refsL, refsEls, refsO, isPureEls, isPures, isPure, noExt, noExts, noExtEls, cellsL, ren, renL, renEls, keepO, keepS, keysO, refsS, refsOB, headC, setS, boxO, row, putW, putB, putB1, eNl, newOs, frz, renO, noExtO, zps, zp, two32, w64, -getElem?_pos, k_cnt, k_cnt0]
  by_cases c3 : a2 > 255
  · clear h
    simp -implicitDefEqProofs (maxSteps := 1000000) (disch := first | omega | rfl) [m44, c0, c1, c2, c3, boxO, KVl, KF, KS, getS, getO, gS, zipN, dropW, takeW, wds, stvs, sea, seaL, refs, refsL, refsEls, refsO, isPureEls, isPures, isPure, noExt, noExts, noExtEls, cellsL, ren, renL, renEls, keepO, keepS, keysO, refsS, refsOB, headC, setS, boxO, row, putW, putB, putB1, eNl, newOs, frz, renO, noExtO, zps, zp, two32, w64, -getElem?_pos, k_cnt, k_cnt0]
  by_cases c4 : a5 < 0
  · clear h
    simp -implicitDefEqProofs (maxSteps := 1000000) (disch := first | omega | rfl) [m44, c0, c1, c2, c3, c4, boxO, KVl, KF, KS, getS, getO, gS, zipN, dropW, takeW, wds, stvs, sea, seaL, refs, refsL, refsEls, refsO, isPureEls, isPures, isPure, noExt, noExts, noExtEls, cellsL, ren, renL, renEls, keepO, keepS, keysO, refsS, refsOB, headC, setS, boxO, row, putW, putB, putB1, eNl, newOs, frz, renO, noExtO, zps, zp, two32, w64, -getElem?_pos, k_cnt, k_cnt0]
  by_cases c5 : a5 > 1073741824
  · clear h
    simp -implicitDefEqProofs (maxSteps := 1000000) (disch := first | omega | rfl) [m44, c0, c1, c2, c3, c4, c5, boxO, KVl, KF, KS, getS, getO, gS, zipN, dropW, takeW, wds, stvs, sea, seaL, refs, refsL, refsEls, refsO, isPureEls, isPures, isPure, noExt, noExts, noExtEls, cellsL, ren, renL, renEls, keepO, keepS, keysO, refsS, refsOB, headC, setS, boxO, row, putW, putB, putB1, eNl, newOs, frz, renO, noExtO, zps, zp, two32, w64, -getElem?_pos, k_cnt, k_cnt0]
  by_cases c6 : a7 < 0
  · clear h
    simp -implicitDefEqProofs (maxSteps := 1000000) (disch := first | omega | rfl) [m44, c0, c1, c2, c3, c4, c5, c6, boxO, KVl, KF, KS, getS, getO, gS, zipN, dropW, takeW, wds, stvs, sea, seaL, refs, refsL, refsEls, refsO, isPureEls, isPures, isPure, noExt, noExts, noExtEls, cellsL, ren, renL, renEls, keepO, keepS, keysO, refsS, refsOB, headC, setS, boxO, row, putW, putB, putB1, eNl, newOs, frz, renO, noExtO, zps, zp, two32, w64, -getElem?_pos, k_cnt, k_cnt0]
  by_cases c7 : a7 > 255
  · clear h
    simp -implicitDefEqProofs (maxSteps := 1000000) (disch := first | omega | rfl) [m44, c0, c1, c2, c3, c4, c5, c6, c7, boxO, KVl, KF, KS, getS, getO, gS, zipN, dropW, takeW, wds, stvs, sea, seaL, refs, refsL, refsEls, refsO, isPureEls, isPures, isPure, noExt, noExts, noExtEls, cellsL, ren, renL, renEls, keepO, keepS, keysO, refsS, refsOB, headC, setS, boxO, row, putW, putB, putB1, eNl, newOs, frz, renO, noExtO, zps, zp, two32, w64, -getElem?_pos, k_cnt, k_cnt0]
  by_cases c8 : a8 < 0
  · clear h
    simp -implicitDefEqProofs (maxSteps := 1000000) (disch := first | omega | rfl) [m44, c0, c1, c2, c3, c4, c5, c6, c7, c8, boxO, KVl, KF, KS, getS, getO, gS, zipN, dropW, takeW, wds, stvs, sea, seaL, refs, refsL, refsEls, refsO, isPureEls, isPures, isPure, noExt, noExts, noExtEls, cellsL, ren, renL, renEls, keepO, keepS, keysO, refsS, refsOB, headC, setS, boxO, row, putW, putB, putB1, eNl, newOs, frz, renO, noExtO, zps, zp, two32, w64, -getElem?_pos, k_cnt, k_cnt0]
  by_cases c9 : a8 > 65535
  · clear h
    simp -implicitDefEqProofs (maxSteps := 1000000) (disch := first | omega | rfl) [m44, c0, c1, c2, c3, c4, c5, c6, c7, c8, c9, boxO, KVl, KF, KS, getS, getO, gS, zipN, dropW, takeW, wds, stvs, sea, seaL, refs, refsL, refsEls, refsO, isPureEls, isPures, isPure, noExt, noExts, noExtEls, cellsL, ren, renL, renEls, keepO, keepS, keysO, refsS, refsOB, headC, setS, boxO, row, putW, putB, putB1, eNl, newOs, frz, renO, noExtO, zps, zp, two32, w64, -getElem?_pos, k_cnt, k_cnt0]
  exact absurd ⟨by unfold inB; rw [Bool.and_eq_true, decide_eq_true_eq, decide_eq_true_eq]; simp only; omega, by simp only; omega, by simp only; omega, by simp only; omega, by simp only; omega⟩ h
theorem R44 (N d : Nat) (f : Fra) (o : okF f) : sem tab (N + 100) (d + 2) 44 [.agg (frC f)] [] = some (.b (plainF f), []) := by
  rw [sem_succ tab (N + 100) (d + 1) 44 m44 rfl]
  by_cases h : BdF f
  · have h53 := R53 (N + 100) d f h
    rw [st44 (sem tab (N + 100) (d + 1)) (N + 99) f h (tagdF f.kind) (numsF f).length (nuL (numsF f)) (by simp [nuL]) h53]
    obtain ⟨M', e⟩ := lp44 (sem tab (N + 100) (d + 1)) (N + 100) (N + 95) (tagdF f.kind) f
    refine Eq.trans e ?_
    rw [end44 (N + 100) d _ f h o]
    have hp : plainF f = eqFr (bareF f) f := by
      have i2 : inB f.user 0 255 = true := by unfold inB; rw [Bool.and_eq_true, decide_eq_true_eq, decide_eq_true_eq]; exact h.user
      have i3 : inB f.epoch 0 1073741824 = true := by unfold inB; rw [Bool.and_eq_true, decide_eq_true_eq, decide_eq_true_eq]; exact h.epoch
      have i4 : inB f.cmd 0 255 = true := by unfold inB; rw [Bool.and_eq_true, decide_eq_true_eq, decide_eq_true_eq]; exact h.cmd
      have i5 : inB f.arg 0 65535 = true := by unfold inB; rw [Bool.and_eq_true, decide_eq_true_eq, decide_eq_true_eq]; exact h.arg
      unfold plainF
      rw [h.kind, i2, i3, i4, i5]
      rfl
    rw [hp]
  · rw [out44 _ _ f h]
    cases hp : plainF f
    · rfl
    · exact absurd (pl_bd ((plainF_iff f).1 hp)) h
end
end Go.Proofs.YtgpggpbibdnfhaaDoor
