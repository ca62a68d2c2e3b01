/- Plain lemmas, part 2. -/
import Derived.Test.YtgpggpbibdnfhaaDoorPgA
import Derived.KernelRfl
set_option linter.all false
set_option linter.unusedSimpArgs false
set_option linter.unusedVariables false
namespace Go.Proofs.YtgpggpbibdnfhaaDoor
open Go
section
theorem wL_inj {a b : List Int} (h : wL a = wL b) : a = b := by
  have : ∀ (a b : List Int), wL a = wL b → a = b := by
    intro a
    induction a with
    | nil => intro b h; cases b with
      | nil => rfl
      | cons y b => simp [wL] at h
    | cons x a ih => intro b h; cases b with
      | nil => simp [wL] at h
      | cons y b =>
        simp only [wL, List.map_cons, List.cons.injEq, PV.i.injEq, true_and] at h
        rw [h.1, ih b h.2]
  exact this a b h
theorem loopJ43 (r0 r1 r2 r3 r4 r5 r6 r7 : Int) (ws : List Int) (hw : ws.length = 64) (z : List PV) : ∀ (n k : Nat) (x0 x1 x2 x3 x4 x5 x6 x7 : Int), k + n = 64 → ∃ ys : List Int, ys.length = 8 ∧ (∀ y ∈ ys, 0 ≤ y ∧ y < 4294967296) ∧
    (∀ M' d M : Nat, loopC (m51b1 (sem tab (M' + 9) (d + 2)) (M' + 9) []) (M + 1 + n) (sl43 k) (ob43 (wL [r0, r1, r2, r3, r4, r5, r6, r7]) z (wL ws) (wL [x0, x1, x2, x3, x4, x5, x6, x7])) = some (.agg [.blob 8 (wL ys)], [])) ∧
    ∀ N d M : Nat, loopC (m66b0 (sem tab N (d + 1)) N []) (M + 1 + n) (sl40 x0 x1 x2 x3 x4 x5 x6 x7 k) (ob40 (wL [r0, r1, r2, r3, r4, r5, r6, r7]) z (wrow ws)) = some (.agg [.blob 8 (wL ys)], []) := by
  intro n
  induction n with
  | zero =>
    intro k x0 x1 x2 x3 x4 x5 x6 x7 hk
    have : k = 64 := by omega
    subst this
    refine ⟨[IntKind.u32.wrap (x0 + r0), IntKind.u32.wrap (x1 + r1), IntKind.u32.wrap (x2 + r2), IntKind.u32.wrap (x3 + r3), IntKind.u32.wrap (x4 + r4), IntKind.u32.wrap (x5 + r5), IntKind.u32.wrap (x6 + r6), IntKind.u32.wrap (x7 + r7)], rfl, fun y hy => ?_, fun M' d M => ?_, fun N d M => ?_⟩
    · simp only [List.mem_cons, List.not_mem_nil, or_false] at hy
      rcases hy with rfl | rfl | rfl | rfl | rfl | rfl | rfl | rfl <;> rw [IntKind.wrap_u32] <;> omega
    · rw [Nat.add_zero, k_loop]
      have h := mid43 (M' + 9) d (loopC (m51b1 (sem tab (M' + 9) (d + 2)) (M' + 9) []) M) (wL [r0, r1, r2, r3, r4, r5, r6, r7]) z (wL ws) (wL [x0, x1, x2, x3, x4, x5, x6, x7])
      rw [show ((64 : Nat) : Int) = 64 from rfl, h]
      exact fin43 (M' + 9) d M' z x0 x1 x2 x3 x4 x5 x6 x7 r0 r1 r2 r3 r4 r5 r6 r7
    · rw [Nat.add_zero, k_loop]
      exact fin40 N d _ z (wrow ws) x0 x1 x2 x3 x4 x5 x6 x7 r0 r1 r2 r3 r4 r5 r6 r7
  | succ n ih =>
    intro k x0 x1 x2 x3 x4 x5 x6 x7 hk
    obtain ⟨wk, hwk⟩ := get_of hw (show k < 64 by omega)
    obtain ⟨mk, hmk, h47⟩ : ∃ mk, nMore[k]? = some mk ∧ ∀ N d : Nat, sem tab N (d + 1) 71 [.i .i64 k] [] = some (.i .u32 mk, []) := by
      obtain ⟨mk, h, _⟩ := t47 0 0 k (by omega)
      refine ⟨mk, h, fun N d => ?_⟩
      obtain ⟨mk', h', h''⟩ := t47 N d k (by omega)
      rw [h] at h'
      obtain rfl := Option.some.inj h'
      exact h''
    have e : ∀ a0 a1 a2 a3 a4 a5 a6 a7 : Int, wL [a0, a1, a2, a3, a4, a5, a6, a7] = [.i .u32 a0, .i .u32 a1, .i .u32 a2, .i .u32 a3, .i .u32 a4, .i .u32 a5, .i .u32 a6, .i .u32 a7] := fun _ _ _ _ _ _ _ _ => rfl
    obtain ⟨t, u, h1, h2⟩ := stepJ43 k (wL [r0, r1, r2, r3, r4, r5, r6, r7]) z (wL ws) (nMore.map (.i .u32)) (wrow ws) x0 x1 x2 x3 x4 x5 x6 x7 wk mk (by omega) rfl (by rw [wL_get, hwk]; rfl) (by rw [wrow_get, hwk]; rfl) (by rw [wrow_len]; exact hw) (by rw [List.getElem?_map, hmk]; rfl) h47
    obtain ⟨ys, i1, i0, i2, i3⟩ := ih (k + 1) t x0 x1 x2 u x4 x5 x6 (by omega)
    refine ⟨ys, i1, i0, fun M' d M => ?_, fun N d M => ?_⟩
    · rw [show M + 1 + (n + 1) = (M + 1 + n) + 1 by omega, k_loop, e x0, h1, ← e t]
      exact i2 M' d M
    · rw [show M + 1 + (n + 1) = (M + 1 + n) + 1 by omega, k_loop, h2]
      exact i3 N d M
set_option maxHeartbeats 4000000 in
/-- A round, here and there. -/
theorem J43 (rs xs : List Int) (hr : rs.length = 8) (hx : xs.length = 64) (hb : ∀ n ∈ xs, 0 ≤ n ∧ n ≤ 255) : ∃ ys : List Int, ys.length = 8 ∧ (∀ y ∈ ys, 0 ≤ y ∧ y < 4294967296) ∧
    (∀ M d : Nat, sem tab (M + 65) (d + 4) 51 [.agg [.blob 8 (wL rs)], .l false (byL xs)] [] = some (.agg [.blob 8 (wL ys)], [])) ∧
    ∀ M d : Nat, sem tab (M + 65) (d + 3) 66 [.agg [.blob 8 (wL rs)], .l false (byL xs)] [] = some (.agg [.blob 8 (wL ys)], []) := by
  obtain ⟨ws, hw, h48, h45⟩ := J48 xs hx hb
  obtain ⟨r0, r1, r2, r3, r4, r5, r6, r7, rfl⟩ := eight hr
  obtain ⟨ys, h1, h0, h2, h3⟩ := loopJ43 r0 r1 r2 r3 r4 r5 r6 r7 ws hw (List.replicate 8 (.i .u32 0)) 64 0 r0 r1 r2 r3 r4 r5 r6 r7 rfl
  refine ⟨ys, h1, h0, fun M d => ?_, fun M d => ?_⟩
  · have h48 := h48 M d
    have h2 := h2 (M + 56) (d + 1) M
    rw [sem_succ tab (M + 65) (d + 3) 51 m51 rfl]
    generalize byL xs = b at *
    generalize wL [r0, r1, r2, r3, r4, r5, r6, r7] = r at *
    generalize wL ws = w at *
    generalize wL ys = y at *
    generalize hz : List.replicate 8 (PV.i IntKind.u32 0) = z at *
    generalize hz2 : List.replicate 64 (PV.i IntKind.u32 0) = z2 at *
    simp only [sl43, ob43, box, Nat.add_assoc] at h2
    simp -implicitDefEqProofs (maxSteps := 1000000) (disch := first | omega | rfl) [m51, hz, hz2, h48, KS, getS, getO, gS, zipN, dropW, takeW, wds, stvs, sea, seaL, refs, refsL, refsEls, refsO, isPureEls, isPures, isPure, noExt, noExts, noExtEls, cellsL, ren, renL, renEls, keepO, keepS, keysO, refsS, refsOB, cntN, headC, setS, boxO, row, putW, putB, putB1, eNl, newOs, frz, renO, noExtO, zps, zp, two32, w64, -getElem?_pos]
    exact h2
  · have h45 := h45 M d
    have h3 := h3 (M + 65) (d + 1) M
    rw [sem_succ tab (M + 65) (d + 2) 66 m66 rfl]
    have e : wL [r0, r1, r2, r3, r4, r5, r6, r7] = [.i .u32 r0, .i .u32 r1, .i .u32 r2, .i .u32 r3, .i .u32 r4, .i .u32 r5, .i .u32 r6, .i .u32 r7] := rfl
    rw [e] at h3 ⊢
    have hwl := wrow_len ws
    rw [hw] at hwl
    generalize byL xs = b at *
    generalize wrow ws = w at *
    generalize wL ys = y at *
    generalize hz : List.replicate 8 (PV.i IntKind.u32 0) = z at *
    simp only [sl40, ob40, box, row, Nat.add_assoc] at h3
    simp -implicitDefEqProofs (maxSteps := 1000000) (disch := first | omega | rfl) [m66, hz, h45, hwl, KS, getS, getO, gS, zipN, dropW, takeW, wds, stvs, sea, seaL, refs, refsL, refsEls, refsO, isPureEls, isPures, isPure, noExt, noExts, noExtEls, cellsL, ren, renL, renEls, keepO, keepS, keysO, refsS, refsOB, cntN, headC, setS, boxO, row, putW, putB, putB1, eNl, newOs, frz, renO, noExtO, zps, zp, two32, w64, -getElem?_pos]
    exact h3
theorem L40 (M d : Nat) (rs xs : List Int) (hr : rs.length = 8) (hx : xs.length = 64) (hb : ∀ n ∈ xs, 0 ≤ n ∧ n ≤ 255) : sem tab (M + 65) (d + 3) 66 [.agg [.blob 8 (wL rs)], .l false (byL xs)] [] = some (.agg [.blob 8 (wL (rnd rs xs))], []) := by
  obtain ⟨ys, h1, h0, h2, h3⟩ := J43 rs xs hr hx hb
  have e := (h2 0 0).symm.trans (L43 0 0 rs xs hr hx)
  have e : wL ys = wL (rnd rs xs) := by
    injection e with e; injection e with e; injection e with e; injection e with e; injection e with e
  rw [← e]; exact h3 M d
theorem rnd_range (rs xs : List Int) (hr : rs.length = 8) (h : ∀ y ∈ rs, 0 ≤ y ∧ y < 4294967296) (hb : ∀ n ∈ xs, 0 ≤ n ∧ n ≤ 255) : ∀ y ∈ rnd rs xs, 0 ≤ y ∧ y < 4294967296 := by
  by_cases hx : xs.length = 64
  · obtain ⟨ys, h1, h0, h2, h3⟩ := J43 rs xs hr hx hb
    have e := (h2 0 0).symm.trans (L43 0 0 rs xs hr hx)
    have e : wL ys = wL (rnd rs xs) := by
      injection e with e; injection e with e; injection e with e; injection e with e; injection e with e
    rw [← wL_inj e]; exact h0
  · unfold rnd
    rw [dif_neg (fun h => hx h.2)]; exact h
theorem rounds_range : ∀ (n : Nat) (rs xs : List Int), xs.length ≤ n → rs.length = 8 → (∀ y ∈ rs, 0 ≤ y ∧ y < 4294967296) → (∀ n ∈ xs, 0 ≤ n ∧ n ≤ 255) → ∀ y ∈ (rounds rs xs).1, 0 ≤ y ∧ y < 4294967296 := by
  intro n
  induction n with
  | zero =>
    intro rs xs h hr h1 hb
    rw [rounds_short (by omega)]; exact h1
  | succ n ih =>
    intro rs xs h hr h1 hb
    by_cases hx : xs.length < 64
    · rw [rounds_short hx]; exact h1
    · rw [rounds_long hx]
      exact ih _ _ (by simp; omega) (rnd_len _ _ hr) (rnd_range _ _ hr h1 (fun n hn => hb n (List.mem_of_mem_take hn))) (fun n hn => hb n (List.mem_of_mem_drop hn))
end
section
theorem L17 (N d : Nat) (ns xs : List Int) (L : Int) : sem tab N (d + 1) 65 [hashV ns false xs L] [] = some (.b (mayB xs.length L), []) := by
  rw [← L23 N d ns xs L, sem_succ tab N d 65 m65 rfl, sem_succ tab N d 40 m40 rfl]
  rfl
def rowv (t : List (List PV)) (v : Nat) : Obj' := { els := t, w := 1, pu := true, g := true, cap := none, ver := v, fro := false }
end
section
def sl25 (n : Nat) : SL := [(1, .p 72 0 0 0 none), (2, .p 80 0 0 0 none), (4, .sl 103 0 0 n)]
def ob25 (hc z : List PV) (t : List (List PV)) : OB := [(103, row t 1 true), (72, box hc 10), (80, box [.blob 32 z] 32)]
def sl25r (i n : Nat) : SL := [(2, .p 80 0 0 0 none), (4, .sl 103 1 i n), (6, .p 112 0 0 0 none)]
def ob25r (r z : List PV) (t : List (List PV)) : OB := [(80, box [.blob 32 z] 32), (112, box [.blob 8 r] 8), (103, rowv t 1)]
def sl25a (k : Int) : SL := [(2, .p 80 0 0 0 none), (6, .p 112 0 0 0 none), (7, .p 120 0 0 0 none), (8, .i .i64 k)]
def ob25a (r z o : List PV) : OB := [(80, box [.blob 32 z] 32), (112, box [.blob 8 r] 8), (120, box [.blob 32 o] 32)]
set_option maxHeartbeats 4000000 in
theorem step25c (N d : Nat) (g : SL → OB → Option R) (r z : List PV) (b t : List (List PV)) (L : Int) (h : ((t.length : Int).tmod 64) ≠ 56) (hl : t.length ≤ 4294967295) :
    m56b2 (sem tab N d) N [] g (sl25 t.length) (ob25 [.blob 8 r, .l false b, .i .i64 L] z t) = g (sl25 (t.length + 1)) (ob25 [.blob 8 r, .l false b, .i .i64 L] z (t ++ [[.i .u8 0]])) := by
  have h1 : ((t.length : Int).tmod 64 == 56) = false := by simpa using h
  have h4 : ((t.length : Int).tmod 64 != 56) = true := by simpa using h
  have h3 : ¬ (t.length + 1 ≤ t.length) := by omega
  have h2 : t.length + 1 ≤ 4294967296 := by omega
  have ht : List.take t.length t = t := List.take_length
  simp -implicitDefEqProofs (maxSteps := 1000000) (disch := first | omega | rfl) [m56b2, sl25, ob25, box, h, h1, h2, h3, h4, ht, KS, getS, getO, gS, zipN, dropW, takeW, wds, stvs, sea, seaL, refs, refsL, refsEls, refsO, isPureEls, isPures, isPure, noExt, noExts, noExtEls, cellsL, ren, renL, renEls, keepO, keepS, keysO, refsS, refsOB, cntN, headC, setS, boxO, row, putW, putB, putB1, eNl, newOs, frz, renO, noExtO, zps, zp, two32, w64, -getElem?_pos]
def lenR (L : Int) : List Int := [0, 0, 0, 0, IntKind.u8.wrap ((8 * L).tdiv 16777216), IntKind.u8.wrap (((8 * L).tdiv 65536).tmod 256), IntKind.u8.wrap (((8 * L).tdiv 256).tmod 256), IntKind.u8.wrap ((8 * L).tmod 256)]
set_option maxHeartbeats 4000000 in
theorem mid25c (N d : Nat) (g : SL → OB → Option R) (r z : List PV) (b t : List (List PV)) (L : Int) (hL : 0 ≤ L ∧ L ≤ 1048576) (h : ((t.length : Int).tmod 64) = 56) (hl : t.length ≤ 4294967280) :
    m56b2 (sem tab N d) N [] g (sl25 t.length) (ob25 [.blob 8 r, .l false b, .i .i64 L] z t) = loopC (m56b1 (sem tab N d) N []) N (sl25r 0 (t.length + 8)) (ob25r r z (t ++ byL (lenR L))) := by
  have h4 : ((t.length : Int).tmod 64 != 56) = false := by simpa using h
  have h2 : t.length + 8 ≤ 4294967296 := by omega
  have h3 : ¬ (t.length + 8 ≤ t.length) := by omega
  have ht : List.take t.length t = t := List.take_length
  have w1 : IntKind.i64.wrap (8 * L) = 8 * L := w64 (by omega) (by omega)
  have w2 : IntKind.i64.wrap ((8 * L).tdiv 16777216) = (8 * L).tdiv 16777216 := by rw [Int.tdiv_eq_ediv_of_nonneg (by omega)]; exact w64 (by omega) (by omega)
  have w3 : IntKind.i64.wrap ((8 * L).tdiv 65536) = (8 * L).tdiv 65536 := by rw [Int.tdiv_eq_ediv_of_nonneg (by omega)]; exact w64 (by omega) (by omega)
  have w4 : IntKind.i64.wrap ((8 * L).tdiv 256) = (8 * L).tdiv 256 := by rw [Int.tdiv_eq_ediv_of_nonneg (by omega)]; exact w64 (by omega) (by omega)
  simp -implicitDefEqProofs (maxSteps := 1000000) (disch := first | omega | rfl) [m56b2, sl25, ob25, sl25r, ob25r, rowv, lenR, byL, box, h, h2, h3, h4, ht, w1, w2, w3, w4, KS, getS, getO, gS, zipN, dropW, takeW, wds, stvs, sea, seaL, refs, refsL, refsEls, refsO, isPureEls, isPures, isPure, noExt, noExts, noExtEls, cellsL, ren, renL, renEls, keepO, keepS, keysO, refsS, refsOB, cntN, headC, setS, boxO, row, putW, putB, putB1, eNl, newOs, frz, renO, noExtO, zps, zp, two32, w64, -getElem?_pos]
set_option maxHeartbeats 4000000 in
theorem step25r (M d : Nat) (g : SL → OB → Option R) (rs T : List Int) (z : List PV) (i n : Nat) (hr : rs.length = 8) (hn : 64 ≤ n) (hi : i + n = T.length) (hb : ∀ n ∈ T, 0 ≤ n ∧ n ≤ 255) :
    m56b1 (sem tab (M + 65) (d + 3)) (M + 65) [] g (sl25r i n) (ob25r (wL rs) z (byL T)) = g (sl25r (i + 64) (n - 64)) (ob25r (wL (rnd rs ((T.drop i).take 64))) z (byL T)) := by
  have h40 := L40 M d rs ((T.drop i).take 64) hr (by simp; omega) (fun x hx => hb x (List.mem_of_mem_drop (List.mem_of_mem_take hx)))
  have hl := byL_len T
  have e : List.take 64 (List.drop i (byL T)) = byL ((T.drop i).take 64) := by rw [byL_drop, byL_take]
  rw [← e] at h40
  rw [← hl] at hi
  generalize byL T = t at *
  generalize wL (rnd rs ((T.drop i).take 64)) = r2 at *
  generalize wL rs = r at *
  have c0 : 0 < n := by omega
  have c1 : 64 ≤ (n : Int) := by omega
  have c2 : i + 64 ≤ t.length := by omega
  have c3 : (0 : Int) < n := by omega
  have c4 : i + n ≤ t.length := by omega
  have c5 : (i : Int) + 64 ≤ t.length := by omega
  have c6 : (i : Int) + n ≤ t.length := by omega
  have c7 : (n : Int) > 0 := by omega
  simp -implicitDefEqProofs (maxSteps := 1000000) (disch := first | omega | rfl) [m56b1, sl25r, ob25r, box, rowv, hn, c0, c1, c2, c3, c4, c5, c6, c7, h40, KS, getS, getO, gS, zipN, dropW, takeW, wds, stvs, sea, seaL, refs, refsL, refsEls, refsO, isPureEls, isPures, isPure, noExt, noExts, noExtEls, cellsL, ren, renL, renEls, keepO, keepS, keysO, refsS, refsOB, cntN, headC, setS, boxO, row, putW, putB, putB1, eNl, newOs, frz, renO, noExtO, zps, zp, two32, w64, -getElem?_pos]
set_option maxHeartbeats 4000000 in
theorem mid25r (N d : Nat) (g : SL → OB → Option R) (r z : List PV) (t : List (List PV)) (i : Nat) :
    m56b1 (sem tab N d) N [] g (sl25r i 0) (ob25r r z t) = loopC (m56b0 (sem tab N d) N []) N (sl25a 0) (ob25a r z (List.replicate 32 (.i .u8 0))) := by
  generalize hz : List.replicate 32 (PV.i IntKind.u8 0) = zz at *
  simp -implicitDefEqProofs (maxSteps := 1000000) (disch := first | omega | rfl) [m56b1, sl25r, ob25r, sl25a, ob25a, hz, box, rowv, KS, getS, getO, gS, zipN, dropW, takeW, wds, stvs, sea, seaL, refs, refsL, refsEls, refsO, isPureEls, isPures, isPure, noExt, noExts, noExtEls, cellsL, ren, renL, renEls, keepO, keepS, keysO, refsS, refsOB, cntN, headC, setS, boxO, row, putW, putB, putB1, eNl, newOs, frz, renO, noExtO, zps, zp, two32, w64, -getElem?_pos]
theorem loop25r (T : List Int) (z : List PV) (hb : ∀ n ∈ T, 0 ≤ n ∧ n ≤ 255) : ∀ (j i : Nat) (rs : List Int) (M d M' : Nat), i + 64 * j = T.length → rs.length = 8 →
    loopC (m56b1 (sem tab (M + 65) (d + 3)) (M + 65) []) (M' + 1 + j) (sl25r i (64 * j)) (ob25r (wL rs) z (byL T)) = loopC (m56b0 (sem tab (M + 65) (d + 3)) (M + 65) []) (M + 65) (sl25a 0) (ob25a (wL (rounds rs (T.drop i)).1) z (List.replicate 32 (.i .u8 0))) := by
  intro j
  induction j with
  | zero =>
    intro i rs M d M' hi hr
    rw [Nat.add_zero, k_loop, rounds_short (by simp; omega), Nat.mul_zero, mid25r]
  | succ j ih =>
    intro i rs M d M' hi hr
    rw [show M' + 1 + (j + 1) = (M' + 1 + j) + 1 by omega, k_loop, step25r M d _ rs T z i (64 * (j + 1)) hr (by omega) (by omega) hb, rounds_long (by simp; omega), List.drop_drop, show 64 * (j + 1) - 64 = 64 * j by omega]
    exact ih (i + 64) _ M d M' (by omega) (rnd_len _ _ hr)
end
section
def lenV (L : Int) : Int := IntKind.u64.wrap (IntKind.u64.wrap L * 8)
def lenB (v : Int) (k : Nat) : Int := IntKind.u8.wrap (v.fdiv (2 ^ min (56 - 8 * (k : Int)).toNat IntKind.u64.bits))
set_option maxHeartbeats 4000000 in
theorem mid24e (r z : List PV) (b t : List (List PV)) (L : Int) (h : ((t.length : Int).tmod 64) = 56) :
    ∀ (N d : Nat) (g : SL → OB → Option R), m26b2 (sem tab N d) N [] g (sl24 t.length) (ob24 [.blob 8 r, .l false b, .i .i64 L] z t) = loopC (m26b1 (sem tab N d) N []) N (sl24b t.length (lenV L) 0) (ob24 [.blob 8 r, .l false b, .i .i64 L] z t) := by
  have ht : List.take t.length t = t := List.take_length
  intro N d g
  simp -implicitDefEqProofs (maxSteps := 1000000) (disch := first | omega | rfl) [m26b2, sl24, ob24, sl24b, box, h, ht, KS, getS, getO, gS, zipN, dropW, takeW, wds, stvs, sea, seaL, refs, refsL, refsEls, refsO, isPureEls, isPures, isPure, noExt, noExts, noExtEls, cellsL, ren, renL, renEls, keepO, keepS, keysO, refsS, refsOB, cntN, headC, setS, boxO, row, putW, putB, putB1, eNl, newOs, frz, renO, noExtO, zps, zp, two32, w64, -getElem?_pos]
  rfl
set_option maxHeartbeats 4000000 in
theorem step24e (r z : List PV) (b t : List (List PV)) (L v : Int) (k : Nat) (hk : k < 8) (hl : t.length ≤ 4294967295) :
    ∀ (N d : Nat) (g : SL → OB → Option R), m26b1 (sem tab N d) N [] g (sl24b t.length v k) (ob24 [.blob 8 r, .l false b, .i .i64 L] z t) = g (sl24b (t.length + 1) v (k + 1 : Nat)) (ob24 [.blob 8 r, .l false b, .i .i64 L] z (t ++ [[.i .u8 (lenB v k)]])) := by
  have c1 : (k : Int) < 8 := by omega
  have c2 : ¬ (56 - 8 * (k : Int) < 0) := by omega
  have h2 : t.length + 1 ≤ 4294967296 := by omega
  have h3 : ¬ (t.length + 1 ≤ t.length) := by omega
  have ht : List.take t.length t = t := List.take_length
  have w1 : IntKind.i64.wrap (56 - 8 * (k : Int)) = 56 - 8 * (k : Int) := w64 (by omega) (by omega)
  intro N d g
  simp -implicitDefEqProofs (maxSteps := 1000000) (disch := first | omega | rfl) [m26b1, sl24b, ob24, box, hk, c1, c2, w1, h2, h3, ht, KS, getS, getO, gS, zipN, dropW, takeW, wds, stvs, sea, seaL, refs, refsL, refsEls, refsO, isPureEls, isPures, isPure, noExt, noExts, noExtEls, cellsL, ren, renL, renEls, keepO, keepS, keysO, refsS, refsOB, cntN, headC, setS, boxO, row, putW, putB, putB1, eNl, newOs, frz, renO, noExtO, zps, zp, two32, w64, -getElem?_pos]
  rfl
theorem lenB_eq (L : Int) (hL : 0 ≤ L ∧ L ≤ 1048576) : lenR L = [lenB (lenV L) 0, lenB (lenV L) 1, lenB (lenV L) 2, lenB (lenV L) 3, lenB (lenV L) 4, lenB (lenV L) 5, lenB (lenV L) 6, lenB (lenV L) 7] := by
  have hv : lenV L = 8 * L := by
    unfold lenV
    simp only [IntKind.wrap_u64]; omega
  have e : ∀ k : Nat, k < 8 → lenB (8 * L) k = (8 * L) / (2 ^ (56 - 8 * k)) % 256 := by
    intro k hk
    unfold lenB
    rw [Int.fdiv_eq_ediv_of_nonneg _ (Int.le_of_lt (Int.pow_pos (by omega))), IntKind.wrap_u8, show (56 - 8 * (k : Int)).toNat = 56 - 8 * k by omega, show min (56 - 8 * k) IntKind.u64.bits = 56 - 8 * k from Nat.min_eq_left (by show 56 - 8 * k ≤ 64; omega)]
  rw [hv, e 0 (by omega), e 1 (by omega), e 2 (by omega), e 3 (by omega), e 4 (by omega), e 5 (by omega), e 6 (by omega), e 7 (by omega)]
  simp only [lenR, Int.tdiv_eq_ediv_of_nonneg (show (0 : Int) ≤ 8 * L by omega), IntKind.wrap_u8]
  rw [Int.tmod_eq_emod_of_nonneg (by omega), Int.tmod_eq_emod_of_nonneg (by omega), Int.tmod_eq_emod_of_nonneg (by omega)]
  simp only [List.cons.injEq, and_true]
  refine ⟨?_, ?_, ?_, ?_, ?_, ?_, ?_, ?_⟩ <;> omega
set_option maxHeartbeats 4000000 in
/-- Eight bytes of length behind; then all is rounded. -/
theorem run24e (M d M' : Nat) (rs ts : List Int) (b : List (List PV)) (L : Int) (z : List PV) (hL : 0 ≤ L ∧ L ≤ 1048576) (hr : rs.length = 8) (hl : ts.length ≤ 57500) :
    loopC (m26b1 (sem tab (M + 1000) (d + 5)) (M + 1000) []) (M' + 9) (sl24b ts.length (lenV L) 0) (ob24 [.blob 8 (wL rs), .l false b, .i .i64 L] z (byL ts)) = loopC (m26b0 (sem tab (M + 1000) (d + 5)) (M + 1000) []) (M + 1000) (sl24a (wL (rounds rs (ts ++ lenR L)).1) 0) (ob24a z (List.replicate 32 (.i .u8 0))) := by
  have st : ∀ (k : Nat) (us : List Int) (g : SL → OB → Option R), k < 8 → us.length ≤ 57600 → m26b1 (sem tab (M + 1000) (d + 5)) (M + 1000) [] g (sl24b us.length (lenV L) (k : Nat)) (ob24 [.blob 8 (wL rs), .l false b, .i .i64 L] z (byL us)) = g (sl24b (us ++ [lenB (lenV L) k]).length (lenV L) (k + 1 : Nat)) (ob24 [.blob 8 (wL rs), .l false b, .i .i64 L] z (byL (us ++ [lenB (lenV L) k]))) := by
    intro k us g hk hu
    have h := step24e (wL rs) z b (byL us) L (lenV L) k hk (by rw [byL_len]; omega) (M + 1000) (d + 5) g
    rw [byL_len, byL_app1] at h
    rw [List.length_append]; exact h
  have e : (0 : Int) = ((0 : Nat) : Int) := rfl
  rw [e, show M' + 9 = (M' + 8) + 1 from rfl, k_loop, st 0 _ _ (by omega) (by omega)]
  rw [k_loop, st (0 + 1) _ _ (by omega) (by simp; omega)]
  rw [k_loop, st (0 + 1 + 1) _ _ (by omega) (by simp; omega)]
  rw [k_loop, st (0 + 1 + 1 + 1) _ _ (by omega) (by simp; omega)]
  rw [k_loop, st (0 + 1 + 1 + 1 + 1) _ _ (by omega) (by simp; omega)]
  rw [k_loop, st (0 + 1 + 1 + 1 + 1 + 1) _ _ (by omega) (by simp; omega)]
  rw [k_loop, st (0 + 1 + 1 + 1 + 1 + 1 + 1) _ _ (by omega) (by simp; omega)]
  rw [k_loop, st (0 + 1 + 1 + 1 + 1 + 1 + 1 + 1) _ _ (by omega) (by simp; omega)]
  rw [k_loop]
  have h := mid24b M d (loopC (m26b1 (sem tab (M + 1000) (d + 5)) (M + 1000) []) M') rs (ts ++ lenR L) b L (lenV L) z hr (by rw [List.length_append, show (lenR L).length = 8 from rfl]; omega)
  rw [lenB_eq L hL] at h ⊢
  simp only [List.append_assoc, List.cons_append, List.nil_append, Nat.zero_add, Nat.reduceAdd] at h ⊢
  exact h
end
section
def oB (x : Int) (n : Nat) : Int := IntKind.u8.wrap (x.fdiv (2 ^ min n IntKind.u32.bits))
def oR0 (x : Int) : Int := IntKind.u8.wrap (x.tdiv 16777216)
def oR1 (x : Int) : Int := IntKind.u8.wrap ((x.tdiv 65536).tmod 256)
def oR2 (x : Int) : Int := IntKind.u8.wrap ((x.tdiv 256).tmod 256)
def oR3 (x : Int) : Int := IntKind.u8.wrap (x.tmod 256)
theorem oR_eq (x : Int) (h : 0 ≤ x ∧ x < 4294967296) : oR0 x = oB x 24 ∧ oR1 x = oB x 16 ∧ oR2 x = oB x 8 ∧ oR3 x = IntKind.u8.wrap x := by
  have e : ∀ n : Nat, n ≤ 32 → oB x n = x / 2 ^ n % 256 := by
    intro n hn
    unfold oB
    rw [show min n IntKind.u32.bits = n from Nat.min_eq_left hn, Int.fdiv_eq_ediv_of_nonneg _ (Int.le_of_lt (Int.pow_pos (by omega))), IntKind.wrap_u8]
  rw [e 24 (by omega), e 16 (by omega), e 8 (by omega)]
  simp only [oR0, oR1, oR2, oR3, Int.tdiv_eq_ediv_of_nonneg h.1, IntKind.wrap_u8]
  rw [Int.tmod_eq_emod_of_nonneg (by omega), Int.tmod_eq_emod_of_nonneg (by omega), Int.tmod_eq_emod_of_nonneg (by omega)]
  refine ⟨?_, ?_, ?_, ?_⟩ <;> omega
set_option maxHeartbeats 4000000 in
theorem step24o (r z o : List PV) (k : Nat) (x : Int) (hk : k < 8) (hx : r[k]? = some (.i .u32 x)) (ho : o.length = 32) :
    ∀ (N d : Nat) (g : SL → OB → Option R), m26b0 (sem tab N d) N [] g (sl24a r k) (ob24a z o) = g (sl24a r (k + 1 : Nat)) (ob24a z ((((o.set (4 * k) (.i .u8 (oB x 24))).set (4 * k + 1) (.i .u8 (oB x 16))).set (4 * k + 2) (.i .u8 (oB x 8))).set (4 * k + 3) (.i .u8 (IntKind.u8.wrap x)))) := by
  have c1 : (k : Int) < 8 := by omega
  have c3 : (0 : Int) ≤ k := by omega
  have c4 : (0 : Int) ≤ 4 * (k : Int) := by omega
  have c5 : (0 : Int) ≤ 4 * (k : Int) + 1 := by omega
  have c6 : (0 : Int) ≤ 4 * (k : Int) + 2 := by omega
  have c7 : (0 : Int) ≤ 4 * (k : Int) + 3 := by omega
  have d4 : 4 * (k : Int) < 32 := by omega
  have d5 : 4 * (k : Int) + 1 < 32 := by omega
  have d6 : 4 * (k : Int) + 2 < 32 := by omega
  have d7 : 4 * (k : Int) + 3 < 32 := by omega
  have t4 : (4 * (k : Int)).toNat = 4 * k := by omega
  have t5 : (4 * (k : Int) + 1).toNat = 4 * k + 1 := by omega
  have t6 : (4 * (k : Int) + 2).toNat = 4 * k + 2 := by omega
  have t7 : (4 * (k : Int) + 3).toNat = 4 * k + 3 := by omega
  have b4 : 4 * k < 32 := by omega
  have b5 : 4 * k + 1 < 32 := by omega
  have b6 : 4 * k + 2 < 32 := by omega
  have b7 : 4 * k + 3 < 32 := by omega
  intro N d g
  simp -implicitDefEqProofs (maxSteps := 1000000) (disch := first | omega | rfl) [m26b0, sl24a, ob24a, box, xV, hk, hx, ho, c1, c3, c4, c5, c6, c7, d4, d5, d6, d7, t4, t5, t6, t7, b4, b5, b6, b7, KS, getS, getO, gS, zipN, dropW, takeW, wds, stvs, sea, seaL, refs, refsL, refsEls, refsO, isPureEls, isPures, isPure, noExt, noExts, noExtEls, cellsL, ren, renL, renEls, keepO, keepS, keysO, refsS, refsOB, cntN, headC, setS, boxO, row, putW, putB, putB1, eNl, newOs, frz, renO, noExtO, zps, zp, two32, w64, -getElem?_pos]
  rfl
set_option maxHeartbeats 4000000 in
theorem step25o (r z o : List PV) (k : Nat) (x : Int) (hk : k < 8) (hx : r[k]? = some (.i .u32 x)) (ho : o.length = 32) (hr : 0 ≤ x ∧ x < 4294967296) :
    ∀ (N d : Nat) (g : SL → OB → Option R), m56b0 (sem tab N d) N [] g (sl25a k) (ob25a r z o) = g (sl25a (k + 1 : Nat)) (ob25a r z ((((o.set (4 * k) (.i .u8 (oR0 x))).set (4 * k + 1) (.i .u8 (oR1 x))).set (4 * k + 2) (.i .u8 (oR2 x))).set (4 * k + 3) (.i .u8 (oR3 x)))) := by
  have c1 : (k : Int) < 8 := by omega
  have c3 : (0 : Int) ≤ k := by omega
  have c4 : (0 : Int) ≤ 4 * (k : Int) := by omega
  have c5 : (0 : Int) ≤ 4 * (k : Int) + 1 := by omega
  have c6 : (0 : Int) ≤ 4 * (k : Int) + 2 := by omega
  have c7 : (0 : Int) ≤ 4 * (k : Int) + 3 := by omega
  have d4 : 4 * (k : Int) < 32 := by omega
  have d5 : 4 * (k : Int) + 1 < 32 := by omega
  have d6 : 4 * (k : Int) + 2 < 32 := by omega
  have d7 : 4 * (k : Int) + 3 < 32 := by omega
  have t4 : (4 * (k : Int)).toNat = 4 * k := by omega
  have t5 : (4 * (k : Int) + 1).toNat = 4 * k + 1 := by omega
  have t6 : (4 * (k : Int) + 2).toNat = 4 * k + 2 := by omega
  have t7 : (4 * (k : Int) + 3).toNat = 4 * k + 3 := by omega
  have b4 : 4 * k < 32 := by omega
  have b5 : 4 * k + 1 < 32 := by omega
  have b6 : 4 * k + 2 < 32 := by omega
  have b7 : 4 * k + 3 < 32 := by omega
  have w2 : IntKind.u32.wrap (x.tdiv 16777216) = x.tdiv 16777216 := by rw [Int.tdiv_eq_ediv_of_nonneg hr.1]; exact w32 (by omega) (by omega)
  have w3 : IntKind.u32.wrap (x.tdiv 65536) = x.tdiv 65536 := by rw [Int.tdiv_eq_ediv_of_nonneg hr.1]; exact w32 (by omega) (by omega)
  have w4 : IntKind.u32.wrap (x.tdiv 256) = x.tdiv 256 := by rw [Int.tdiv_eq_ediv_of_nonneg hr.1]; exact w32 (by omega) (by omega)
  intro N d g
  simp -implicitDefEqProofs (maxSteps := 1000000) (disch := first | omega | rfl) [m56b0, sl25a, ob25a, box, oR0, oR1, oR2, oR3, hk, hx, ho, c1, c3, c4, c5, c6, c7, d4, d5, d6, d7, t4, t5, t6, t7, b4, b5, b6, b7, w2, w3, w4, KS, getS, getO, gS, zipN, dropW, takeW, wds, stvs, sea, seaL, refs, refsL, refsEls, refsO, isPureEls, isPures, isPure, noExt, noExts, noExtEls, cellsL, ren, renL, renEls, keepO, keepS, keysO, refsS, refsOB, cntN, headC, setS, boxO, row, putW, putB, putB1, eNl, newOs, frz, renO, noExtO, zps, zp, two32, w64, -getElem?_pos]
set_option maxHeartbeats 4000000 in
theorem end25a (N d : Nat) (g : SL → OB → Option R) (r z o : List PV) : m56b0 (sem tab N d) N [] g (sl25a 8) (ob25a r z o) = some (.agg [.blob 32 o], []) := by
  simp -implicitDefEqProofs (maxSteps := 1000000) (disch := first | omega | rfl) [m56b0, sl25a, ob25a, box, KS, getS, getO, gS, zipN, dropW, takeW, wds, stvs, sea, seaL, refs, refsL, refsEls, refsO, isPureEls, isPures, isPure, noExt, noExts, noExtEls, cellsL, ren, renL, renEls, keepO, keepS, keysO, refsS, refsOB, cntN, headC, setS, boxO, row, putW, putB, putB1, eNl, newOs, frz, renO, noExtO, zps, zp, two32, w64, -getElem?_pos]
theorem loopJ24 (rs : List Int) (hr : rs.length = 8) (hb : ∀ y ∈ rs, 0 ≤ y ∧ y < 4294967296) (z z' : List PV) : ∀ (n k : Nat) (o : List Int), k + n = 8 → o.length = 32 → (∀ y ∈ o, 0 ≤ y ∧ y ≤ 255) → ∃ o' : List Int, o'.length = 32 ∧ (∀ y ∈ o', 0 ≤ y ∧ y ≤ 255) ∧
    (∀ N d M : Nat, loopC (m26b0 (sem tab N d) N []) (M + 1 + n) (sl24a (wL rs) k) (ob24a z (uL o)) = some (.agg [.blob 32 (uL o')], [])) ∧
    ∀ N d M : Nat, loopC (m56b0 (sem tab N d) N []) (M + 1 + n) (sl25a k) (ob25a (wL rs) z' (uL o)) = some (.agg [.blob 32 (uL o')], []) := by
  intro n
  induction n with
  | zero =>
    intro k o hk ho hor
    have : k = 8 := by omega
    subst this
    exact ⟨o, ho, hor, fun N d M => by rw [Nat.add_zero, k_loop]; exact end24a N d _ _ _ _, fun N d M => by rw [Nat.add_zero, k_loop]; exact end25a N d _ _ _ _⟩
  | succ n ih =>
    intro k o hk ho hor
    have hk8 : k < rs.length := by omega
    have hx : (wL rs)[k]? = some (.i .u32 rs[k]) := by rw [wL_get, List.getElem?_eq_getElem hk8]; rfl
    have hrg := hb _ (List.getElem_mem hk8)
    have h1 := step24o (wL rs) z (uL o) k rs[k] (by omega) hx (by rw [uL_len]; exact ho)
    have h2 := step25o (wL rs) z' (uL o) k rs[k] (by omega) hx (by rw [uL_len]; exact ho) hrg
    obtain ⟨e0, e1, e2, e3⟩ := oR_eq rs[k] hrg
    rw [e0, e1, e2, e3] at h2
    rw [uL_set, uL_set, uL_set, uL_set] at h1 h2
    obtain ⟨o', i1, i0, i2, i3⟩ := ih (k + 1) ((((o.set (4 * k) (oB rs[k] 24)).set (4 * k + 1) (oB rs[k] 16)).set (4 * k + 2) (oB rs[k] 8)).set (4 * k + 3) (IntKind.u8.wrap rs[k])) (by omega) (by simpa using ho) (fun y hy => by
      have w8r : ∀ x : Int, 0 ≤ IntKind.u8.wrap x ∧ IntKind.u8.wrap x ≤ 255 := fun x => by rw [IntKind.wrap_u8]; omega
      rcases List.mem_or_eq_of_mem_set hy with hy | rfl
      · rcases List.mem_or_eq_of_mem_set hy with hy | rfl
        · rcases List.mem_or_eq_of_mem_set hy with hy | rfl
          · rcases List.mem_or_eq_of_mem_set hy with hy | rfl
            · exact hor y hy
            · exact w8r _
          · exact w8r _
        · exact w8r _
      · exact w8r _)
    refine ⟨o', i1, i0, fun N d M => ?_, fun N d M => ?_⟩
    · rw [show M + 1 + (n + 1) = (M + 1 + n) + 1 by omega, k_loop, h1]
      exact i2 N d M
    · rw [show M + 1 + (n + 1) = (M + 1 + n) + 1 by omega, k_loop, h2]
      exact i3 N d M
end
section
theorem z24c (rs : List Int) (b : List (List PV)) (L : Int) (z : List PV) : ∀ (n : Nat) (ts : List Int), (ts.length + n) % 64 = 56 → n < 64 → ts.length + n ≤ 57500 → ∀ M d M' : Nat, loopC (m26b2 (sem tab (M + 1000) (d + 5)) (M + 1000) []) (M' + 1 + n) (sl24 ts.length) (ob24 [.blob 8 (wL rs), .l false b, .i .i64 L] z (byL ts)) = loopC (m26b1 (sem tab (M + 1000) (d + 5)) (M + 1000) []) (M + 1000) (sl24b (ts ++ List.replicate n 0).length (lenV L) 0) (ob24 [.blob 8 (wL rs), .l false b, .i .i64 L] z (byL (ts ++ List.replicate n 0))) := by
  intro n
  induction n with
  | zero =>
    intro ts h _ hl M d M'
    have htm : ((ts.length : Int).tmod 64) = 56 := by
      rw [Int.tmod_eq_emod_of_nonneg (by omega)]; omega
    have hv := mid24e (wL rs) z b (byL ts) L (by rw [byL_len]; exact htm) (M + 1000) (d + 5) (loopC (m26b2 (sem tab (M + 1000) (d + 5)) (M + 1000) []) M')
    rw [byL_len] at hv
    rw [Nat.add_zero, k_loop, hv, List.replicate_zero, List.append_nil]
  | succ n ih =>
    intro ts h hn hl M d M'
    have htm : ((ts.length : Int).tmod 64) ≠ 56 := by
      rw [Int.tmod_eq_emod_of_nonneg (by omega)]; omega
    have hy := step24c (M + 1000) (d + 5) (loopC (m26b2 (sem tab (M + 1000) (d + 5)) (M + 1000) []) (M' + 1 + n)) (wL rs) z z b (byL ts) L (by rw [byL_len]; exact htm) (by rw [byL_len]; omega)
    rw [byL_len] at hy
    rw [show M' + 1 + (n + 1) = (M' + 1 + n) + 1 by omega, k_loop, hy, byL_app1]
    have := ih (ts ++ [0]) (by simp only [List.length_append, List.length_singleton]; omega) (by omega) (by simp only [List.length_append, List.length_singleton]; omega) M d M'
    rw [List.append_assoc, show [(0 : Int)] ++ List.replicate n 0 = List.replicate (n + 1) 0 from rfl] at this
    rw [show (ts ++ [(0 : Int)]).length = ts.length + 1 by simp] at this
    exact this
theorem z25c (rs : List Int) (b : List (List PV)) (L : Int) (z : List PV) (hL : 0 ≤ L ∧ L ≤ 1048576) : ∀ (n : Nat) (ts : List Int), (ts.length + n) % 64 = 56 → n < 64 → ts.length + n ≤ 57500 → ∀ N d M' : Nat, loopC (m56b2 (sem tab N d) N []) (M' + 1 + n) (sl25 ts.length) (ob25 [.blob 8 (wL rs), .l false b, .i .i64 L] z (byL ts)) = loopC (m56b1 (sem tab N d) N []) N (sl25r 0 ((ts ++ List.replicate n 0).length + 8)) (ob25r (wL rs) z (byL (ts ++ List.replicate n 0 ++ lenR L))) := by
  intro n
  induction n with
  | zero =>
    intro ts h _ hl N d M'
    have htm : ((ts.length : Int).tmod 64) = 56 := by
      rw [Int.tmod_eq_emod_of_nonneg (by omega)]; omega
    have hv := mid25c N d (loopC (m56b2 (sem tab N d) N []) M') (wL rs) z b (byL ts) L hL (by rw [byL_len]; exact htm) (by rw [byL_len]; omega)
    rw [byL_len, byL_app] at hv
    rw [Nat.add_zero, k_loop, hv, List.replicate_zero, List.append_nil]
  | succ n ih =>
    intro ts h hn hl N d M'
    have htm : ((ts.length : Int).tmod 64) ≠ 56 := by
      rw [Int.tmod_eq_emod_of_nonneg (by omega)]; omega
    have hy := step25c N d (loopC (m56b2 (sem tab N d) N []) (M' + 1 + n)) (wL rs) z b (byL ts) L (by rw [byL_len]; exact htm) (by rw [byL_len]; omega)
    rw [byL_len] at hy
    rw [show M' + 1 + (n + 1) = (M' + 1 + n) + 1 by omega, k_loop, hy, byL_app1]
    have := ih (ts ++ [0]) (by simp only [List.length_append, List.length_singleton]; omega) (by omega) (by simp only [List.length_append, List.length_singleton]; omega) N d M'
    rw [List.append_assoc ts, show [(0 : Int)] ++ List.replicate n 0 = List.replicate (n + 1) 0 from rfl] at this
    rw [show (ts ++ [(0 : Int)]).length = ts.length + 1 by simp] at this
    exact this
theorem lenR_range (L : Int) : ∀ n ∈ lenR L, 0 ≤ n ∧ n ≤ 255 := by
  intro n hn
  simp only [lenR, List.mem_cons, List.not_mem_nil, or_false] at hn
  rcases hn with rfl | rfl | rfl | rfl | rfl | rfl | rfl | rfl <;> first | omega | (rw [IntKind.wrap_u8]; omega)
theorem uL_inj : ∀ {a b : List Int}, uL a = uL b → a = b
  | [], [], _ => rfl
  | [], y :: b, h => by simp [uL] at h
  | x :: a, [], h => by simp [uL] at h
  | x :: a, y :: b, h => by
    simp only [uL, List.map_cons, List.cons.injEq, PV.i.injEq, true_and] at h
    rw [h.1, uL_inj h.2]
set_option maxHeartbeats 4000000 in
/-- The sum of a state, here and there. -/
theorem J24 (ns xs : List Int) (L : Int) (hn : ns.length = 8) (hb : ∀ y ∈ ns, 0 ≤ y ∧ y < 4294967296) (hx : ∀ n ∈ xs, 0 ≤ n ∧ n ≤ 255) : ∃ o : List Int, o.length = 32 ∧ (∀ y ∈ o, 0 ≤ y ∧ y ≤ 255) ∧
    (∀ M d : Nat, sem tab (M + 1000) (d + 6) 26 [hashV ns false xs L] [] = some (.agg [.blob 32 (uL o)], [])) ∧
    ∀ M d : Nat, sem tab (M + 1000) (d + 4) 56 [hashV ns false xs L] [] = some (.agg [.blob 32 (uL o)], []) := by
  by_cases hm : mayB xs.length L = true
  · obtain ⟨hL0, hL1, hx64⟩ : 0 ≤ L ∧ L ≤ 1048576 ∧ xs.length < 64 := by
      simp [mayB] at hm
      obtain ⟨h0, h1, h2⟩ := hm
      rw [Int.tmod_eq_emod_of_nonneg h0] at h2; exact ⟨h0, h1, by omega⟩
    obtain ⟨k, hk, hp⟩ := pad_of (xs ++ [128]).length
    have hT : ∀ n ∈ xs ++ [128] ++ List.replicate k 0 ++ lenR L, 0 ≤ n ∧ n ≤ 255 := by
      intro n hn
      simp only [List.mem_append, List.mem_singleton, List.mem_replicate] at hn
      rcases hn with ((h | h) | h) | h
      · exact hx n h
      · omega
      · omega
      · exact lenR_range L n h
    have hlen : (xs ++ [128] ++ List.replicate k 0 ++ lenR L).length = xs.length + 1 + k + 8 := by
      simp only [List.length_append, List.length_singleton, List.length_replicate, show (lenR L).length = 8 from rfl]
    rw [List.length_append, List.length_singleton] at hp
    obtain ⟨rl, _⟩ := rounds_len _ ns (xs ++ [128] ++ List.replicate k 0 ++ lenR L) (Nat.le_refl _) hn
    have rr := rounds_range _ ns (xs ++ [128] ++ List.replicate k 0 ++ lenR L) (Nat.le_refl _) hn hb hT
    obtain ⟨o, h1, h0, h2, h3⟩ := loopJ24 _ rl rr (List.replicate 32 (.i .u8 0)) (List.replicate 32 (.i .u8 0)) 8 0 (List.replicate 32 0) rfl (by simp) (fun y hy => by rw [(List.mem_replicate.1 hy).2]; omega)
    refine ⟨o, h1, h0, fun M d => ?_, fun M d => ?_⟩
    · have a1 := z24c ns (byL xs) L (List.replicate 32 (.i .u8 0)) k (xs ++ [128]) (by simp only [List.length_append, List.length_singleton]; omega) hk (by simp only [List.length_append, List.length_singleton]; omega) M d (M + 999 - k)
      rw [show M + 999 - k + 1 + k = (M + 991) + 9 by omega] at a1
      have a2 := run24e M d (M + 991) ns (xs ++ [128] ++ List.replicate k 0) (byL xs) L (List.replicate 32 (.i .u8 0)) ⟨hL0, hL1⟩ hn (by simp only [List.length_append, List.length_singleton, List.length_replicate]; omega)
      rw [show M + 1000 = (M + 991) + 9 by omega] at a1 a2 ⊢
      rw [a2] at a1
      have a3 := h2 ((M + 991) + 9) (d + 5) (M + 991)
      rw [show M + 991 + 1 + 8 = (M + 991) + 9 by omega, ← zero32] at a3
      have h2 := a1.trans a3
      rw [sem_succ tab (M + 991 + 9) (d + 5) 26 m26 rfl]
      have h23 := L23 (M + 991 + 9) (d + 4) ns xs L
      rw [hm] at h23
      have h39 := L39 (M + 991 + 9) (d + 4) xs (by omega)
      have hlx := byL_len xs
      rw [← byL_app1] at h2
      rw [List.length_append, ← hlx] at h2
      rw [← hlx] at h39 hx64
      simp only [hashV_wL] at h23 ⊢
      generalize byL xs = a at *
      generalize wL ns = r at *
      generalize hz : List.replicate 32 (PV.i IntKind.u8 0) = zz at *
      have ht : List.take a.length a = a := List.take_length
      have q1 : a.length + 1 ≤ 4294967296 := by omega
      have q2 : ¬ (a.length + 1 ≤ a.length) := by omega
      simp only [sl24, ob24, box, row, List.length_singleton] at h2
      simp -implicitDefEqProofs (maxSteps := 1000000) (disch := first | omega | rfl) [m26, hz, h23, h39, ht, q1, q2, KS, getS, getO, gS, zipN, dropW, takeW, wds, stvs, sea, seaL, refs, refsL, refsEls, refsO, isPureEls, isPures, isPure, noExt, noExts, noExtEls, cellsL, ren, renL, renEls, keepO, keepS, keysO, refsS, refsOB, cntN, headC, setS, boxO, row, putW, putB, putB1, eNl, newOs, frz, renO, noExtO, zps, zp, two32, w64, -getElem?_pos]
      exact h2
    · have a1 := z25c ns (byL xs) L (List.replicate 32 (.i .u8 0)) ⟨hL0, hL1⟩ k (xs ++ [128]) (by simp only [List.length_append, List.length_singleton]; omega) hk (by simp only [List.length_append, List.length_singleton]; omega) (M + 935 + 65) (d + 3) (M + 999 - k)
      rw [show M + 999 - k + 1 + k = M + 935 + 65 by omega] at a1
      have hj : (xs ++ [128] ++ List.replicate k 0).length + 8 = 64 * ((xs.length + 1 + k + 8) / 64) := by
        simp only [List.length_append, List.length_singleton, List.length_replicate]; omega
      have a2 := loop25r (xs ++ [128] ++ List.replicate k 0 ++ lenR L) (List.replicate 32 (.i .u8 0)) hT ((xs.length + 1 + k + 8) / 64) 0 ns (M + 935) d (M + 999 - (xs.length + 1 + k + 8) / 64) (by rw [hlen]; omega) hn
      rw [show M + 999 - (xs.length + 1 + k + 8) / 64 + 1 + (xs.length + 1 + k + 8) / 64 = M + 935 + 65 by omega, List.drop_zero, ← hj] at a2
      have a3 := h3 (M + 935 + 65) (d + 3) (M + 991)
      rw [show M + 991 + 1 + 8 = M + 935 + 65 by omega, ← zero32] at a3
      have h3 := (a1.trans a2).trans a3
      rw [show M + 1000 = M + 935 + 65 by omega]
      rw [sem_succ tab (M + 935 + 65) (d + 3) 56 m56 rfl]
      have h17 := L17 (M + 935 + 65) (d + 2) ns xs L
      rw [hm] at h17
      have hlx := byL_len xs
      have fx := flat_by xs
      have wx := allW_by xs
      rw [← byL_app1] at h3
      rw [List.length_append, ← hlx] at h3
      rw [← hlx] at hx64
      simp only [hashV_wL] at h17 ⊢
      generalize byL xs = a at *
      generalize wL ns = r at *
      generalize hz : List.replicate 32 (PV.i IntKind.u8 0) = zz at *
      have ht : List.take a.length a = a := List.take_length
      have q0 : a.length ≤ 4294967296 := by omega
      have q1 : a.length + 1 ≤ 4294967296 := by omega
      have q2 : ¬ (a.length + 1 ≤ a.length) := by omega
      simp only [sl25, ob25, box, row, List.length_singleton] at h3
      simp -implicitDefEqProofs (maxSteps := 1000000) (disch := first | omega | rfl) [m56, hz, h17, fx, wx, ht, q0, q1, q2, KS, getS, getO, gS, zipN, dropW, takeW, wds, stvs, sea, seaL, refs, refsL, refsEls, refsO, isPureEls, isPures, isPure, noExt, noExts, noExtEls, cellsL, ren, renL, renEls, keepO, keepS, keysO, refsS, refsOB, cntN, headC, setS, boxO, row, putW, putB, putB1, eNl, newOs, frz, renO, noExtO, zps, zp, two32, w64, -getElem?_pos]
      exact h3
  · have hm : mayB xs.length L = false := by simpa using hm
    obtain ⟨o, ho, h24⟩ := E24 ns xs L hn
    have : uL o = List.replicate 32 (.i .u8 0) := by
      have h := h24 0 0
      rw [sem_succ tab (0 + 1000) (0 + 5) 26 m26 rfl] at h
      have h23 := L23 (0 + 1000) (0 + 4) ns xs L
      rw [hm] at h23
      simp only [hashV_wL] at h23 h
      generalize byL xs = a at *
      generalize wL ns = r at *
      generalize hz : List.replicate 32 (PV.i IntKind.u8 0) = zz at *
      simp -implicitDefEqProofs (maxSteps := 1000000) (disch := first | omega | rfl) [m26, hz, h23, KS, getS, getO, gS, zipN, dropW, takeW, wds, stvs, sea, seaL, refs, refsL, refsEls, refsO, isPureEls, isPures, isPure, noExt, noExts, noExtEls, cellsL, ren, renL, renEls, keepO, keepS, keysO, refsS, refsOB, cntN, headC, setS, boxO, row, putW, putB, putB1, eNl, newOs, frz, renO, noExtO, zps, zp, two32, w64, -getElem?_pos] at h
      exact h.symm
    have ho0 : o = List.replicate 32 0 := by
      have e : uL o = uL (List.replicate 32 0) := by rw [this, zero32]
      exact uL_inj e
    refine ⟨o, ho, fun y hy => by rw [ho0] at hy; rw [(List.mem_replicate.1 hy).2]; omega, h24, fun M d => ?_⟩
    rw [this, sem_succ tab (M + 1000) (d + 3) 56 m56 rfl]
    have h17 := L17 (M + 1000) (d + 2) ns xs L
    rw [hm] at h17
    simp only [hashV_wL] at h17 ⊢
    generalize byL xs = a at *
    generalize wL ns = r at *
    generalize hz : List.replicate 32 (PV.i IntKind.u8 0) = zz at *
    simp -implicitDefEqProofs (maxSteps := 1000000) (disch := first | omega | rfl) [m56, hz, h17, KS, getS, getO, gS, zipN, dropW, takeW, wds, stvs, sea, seaL, refs, refsL, refsEls, refsO, isPureEls, isPures, isPure, noExt, noExts, noExtEls, cellsL, ren, renL, renEls, keepO, keepS, keysO, refsS, refsOB, cntN, headC, setS, boxO, row, putW, putB, putB1, eNl, newOs, frz, renO, noExtO, zps, zp, two32, w64, -getElem?_pos]
theorem endI_range (ns xs : List Int) (L : Int) (hn : ns.length = 8) (hb : ∀ y ∈ ns, 0 ≤ y ∧ y < 4294967296) (hx : ∀ n ∈ xs, 0 ≤ n ∧ n ≤ 255) : ∀ y ∈ endI ns xs L, 0 ≤ y ∧ y ≤ 255 := by
  obtain ⟨o, h1, h0, h2, h3⟩ := J24 ns xs L hn hb hx
  have e := (h2 0 0).symm.trans (L24 0 0 ns xs L hn)
  have e : uL o = uL (endI ns xs L) := by
    injection e with e; injection e with e; injection e with e; injection e with e; injection e with e
  rw [← uL_inj e]; exact h0
end
section
theorem nFirst_range : ∀ y ∈ nFirst, 0 ≤ y ∧ y < 4294967296 := by decide
theorem rounds_rest : ∀ (n : Nat) (rs xs : List Int), xs.length ≤ n → (∀ n ∈ xs, 0 ≤ n ∧ n ≤ 255) → ∀ y ∈ (rounds rs xs).2, 0 ≤ y ∧ y ≤ 255 := by
  intro n
  induction n with
  | zero =>
    intro rs xs h hb
    rw [rounds_short (by omega)]; exact hb
  | succ n ih =>
    intro rs xs h hb
    by_cases hx : xs.length < 64
    · rw [rounds_short hx]; exact hb
    · rw [rounds_long hx]
      exact ih _ _ (by simp; omega) (fun n hn => hb n (List.mem_of_mem_drop hn))
theorem sumI_range (ys : List Int) (hb : ∀ n ∈ ys, 0 ≤ n ∧ n ≤ 255) : ∀ n ∈ sumI ys, 0 ≤ n ∧ n ≤ 255 :=
  endI_range _ _ _ (rounds_len _ nFirst ys (Nat.le_refl _) rfl).1 (rounds_range _ nFirst ys (Nat.le_refl _) rfl nFirst_range hb) (rounds_rest _ nFirst ys (Nat.le_refl _) hb)
theorem app_range {xs ys : List Int} (hx : ∀ n ∈ xs, 0 ≤ n ∧ n ≤ 255) (hy : ∀ n ∈ ys, 0 ≤ n ∧ n ≤ 255) : ∀ n ∈ xs ++ ys, 0 ≤ n ∧ n ≤ 255 := fun n hn => by
  rcases List.mem_append.1 hn with h | h
  · exact hx n h
  · exact hy n h
theorem padI_range (xs : List Int) (c : Int) : ∀ n ∈ padI xs c, 0 ≤ n ∧ n ≤ 255 := fun n hn => by
  obtain ⟨x, _, rfl⟩ := List.mem_map.1 hn
  rw [xorI, IntKind.wrap_u8]; omega
end
section
theorem rev_ind {Q : List Int → Prop} (h0 : Q []) (h1 : ∀ l c, Q l → Q (l ++ [c])) (l : List Int) : Q l := by
  have key : ∀ r : List Int, Q r.reverse := by
    intro r
    induction r with
    | nil => exact h0
    | cons c r ih => rw [List.reverse_cons]; exact h1 _ _ ih
  have := key l.reverse
  rwa [List.reverse_reverse] at this
/-- The number of bytes, the greatest first. -/
def val (l : List Int) : Int := l.foldl (fun a c => a * 256 + c) 0
theorem val_app (l : List Int) (c : Int) : val (l ++ [c]) = val l * 256 + c := by simp [val]
theorem val_range : ∀ (l : List Int), (∀ x ∈ l, 0 ≤ x ∧ x ≤ 255) → 0 ≤ val l ∧ val l < 256 ^ l.length := by
  refine rev_ind (fun _ => by simp [val]) fun l c ih h => ?_
  obtain ⟨h1, h2⟩ := ih fun x hx => h x (by simp [hx])
  have hc := h c (by simp)
  rw [val_app, List.length_append, List.length_singleton, Int.pow_succ]
  constructor <;> omega
theorem val_be : ∀ (k : Nat) (n : Int), val (be k n) = n % 256 ^ k
  | 0, n => by simp [be, val]
  | k + 1, n => by
    rw [be, val_app, val_be k, Int.pow_succ]
    have h1 := Int.emod_add_mul_ediv n 256
    have h2 : n % (256 ^ k * 256) = 256 * ((n / 256) % 256 ^ k) + n % 256 := by
      rw [Int.mul_comm]
      have := Int.emod_emod_of_dvd n (show (256 : Int) ∣ 256 * 256 ^ k from ⟨_, rfl⟩)
      have e := Int.mul_emod_mul_of_pos (n / 256) (256 ^ k) (show (0 : Int) < 256 by decide)
      have e2 : n % (256 * 256 ^ k) = (256 * (n / 256) + n % 256) % (256 * 256 ^ k) := by congr 1; omega
      rw [e2]
      have hpos : (0 : Int) < 256 ^ k := Int.pow_pos (by decide)
      have r := Int.emod_nonneg (n / 256) (Int.ne_of_gt hpos)
      have r2 := Int.emod_lt_of_pos (n / 256) hpos
      have m := Int.emod_nonneg n (show (256 : Int) ≠ 0 by decide)
      have m2 := Int.emod_lt_of_pos n (show (0 : Int) < 256 by decide)
      rw [Int.add_emod, e]
      have e3 : n % 256 % (256 * 256 ^ k) = n % 256 := Int.emod_eq_of_lt m (by omega)
      rw [e3]
      exact Int.emod_eq_of_lt (by omega) (by omega)
    omega
/-- One byte more. -/
theorem shlor (a c : Int) (h0 : 0 ≤ a) (h1 : a < 2 ^ 56) (h2 : 0 ≤ c) (h3 : c < 256) : IntKind.u64.wrap (BitVec.ofInt 64 (IntKind.u64.wrap (a * 2 ^ 8)) ||| BitVec.ofInt 64 c).toNat = a * 256 + c := by
  obtain ⟨n, rfl⟩ : ∃ n : Nat, a = n := ⟨a.toNat, by omega⟩
  obtain ⟨m, rfl⟩ : ∃ n : Nat, c = n := ⟨c.toNat, by omega⟩
  have e : IntKind.u64.wrap ((n : Int) * 2 ^ 8) = (2 ^ 8 * n : Nat) := by rw [IntKind.wrap_u64]; omega
  rw [e, BitVec.ofInt_natCast, BitVec.ofInt_natCast, BitVec.toNat_or, BitVec.toNat_ofNat, BitVec.toNat_ofNat, Nat.mod_eq_of_lt (by omega), Nat.mod_eq_of_lt (by omega), ← Nat.two_pow_add_eq_or_of_lt (by omega), IntKind.wrap_u64]
  omega
end
section
theorem orV (a c : Int) (h0 : 0 ≤ a) (h1 : a < 2 ^ 56) (h2 : 0 ≤ c) (h3 : c < 256) : bi .or (.i .u64 (a * 256)) (.i .u64 c) = some (.i .u64 (a * 256 + c)) := by
  have h := shlor a c h0 h1 h2 h3
  have e : IntKind.u64.wrap (a * 2 ^ 8) = a * 256 := by rw [IntKind.wrap_u64]; omega
  rw [e] at h
  have : bi .or (.i .u64 (a * 256)) (.i .u64 c) = some (.i .u64 (IntKind.u64.wrap (BitVec.ofInt 64 (a * 256) ||| BitVec.ofInt 64 c).toNat)) := rfl
  rw [this, h]
theorem shlV (a : Int) (h0 : 0 ≤ a) (h1 : a < 2 ^ 56) : bi .shl (.i .u64 a) (.i .u64 8) = some (.i .u64 (a * 256)) := by
  have e : IntKind.u64.wrap (a * 2 ^ 8) = a * 256 := by rw [IntKind.wrap_u64]; omega
  have : bi .shl (.i .u64 a) (.i .u64 8) = some (.i .u64 (IntKind.u64.wrap (a * 2 ^ 8))) := rfl
  rw [this, e]
def slv (at' k : Nat) (acc : Int) (q : Bool) (xs : List (List PV)) (n i : Nat) : SL := [(1, .i .i64 at'), (2, .i .i64 k), (8, .i .u64 acc), (40, .l q xs), (41, .i .i64 n), (42, .i .i64 i)]
set_option maxHeartbeats 4000000 in
theorem stepv99 (Φ : Sem') (N : Nat) (g : SL → OB → Option R) (at' k : Nat) (acc c : Int) (q : Bool) (xs : List (List PV)) (n i : Nat) (hx : xs[i]? = some [.i .u8 c]) (hi : i < n) (hn : n < 1000000) (ha : 0 ≤ acc ∧ acc < 2 ^ 56) (hc : 0 ≤ c ∧ c ≤ 255) :
    m33b0 Φ N [] g (slv at' k acc q xs n i) [] = g (slv at' k (acc * 256 + c) q xs n (i + 1)) [] := by
  have w2 := w64n (i := i) (by omega)
  have w3 : IntKind.u64.wrap c = c := by rw [IntKind.wrap_u64]; omega
  have h1 := shlV acc ha.1 ha.2
  have h2 := orV acc c ha.1 ha.2 hc.1 (by omega)
  have ci : (i : Int) < n := by omega
  generalize hA : acc * 256 = A at *
  unfold m33b0
  rw [show gS (slv at' k acc q xs n i) 8 = .i .u64 acc from rfl]
  simp only [h1]
  simp -implicitDefEqProofs (maxSteps := 1000000) (disch := first | omega | rfl) [slv, hx, w2, w3, ci, h2, KS, getS, getO, gS, zipN, dropW, takeW, wds, stvs, sea, seaL, refs, refsL, refsEls, refsO, isPureEls, isPures, isPure, noExt, noExts, noExtEls, cellsL, ren, renL, renEls, keepO, keepS, keysO, refsS, refsOB, cntN, headC, setS, boxO, row, putW, putB, putB1, eNl, newOs, frz, renO, noExtO, zps, zp, two32, w64, -getElem?_pos]
end
section
set_option maxHeartbeats 4000000 in
theorem endv99 (Φ : Sem') (N : Nat) (g : SL → OB → Option R) (at' k : Nat) (acc : Int) (q : Bool) (xs : List (List PV)) (n : Nat) (h1 : at' < 1000000) (h2 : k < 1000000) :
    m33b0 Φ N [] g (slv at' k acc q xs n n) [] = some (.tup [.i .u64 acc, .i .i64 ((at' + k : Nat) : Int)], []) := by
  have w2 : IntKind.i64.wrap ((at' : Int) + k) = ((at' + k : Nat) : Int) := by rw [w64 (by omega) (by omega)]; omega
  simp -implicitDefEqProofs (maxSteps := 1000000) (disch := first | omega | rfl) [m33b0, slv, w2, KS, getS, getO, gS, zipN, dropW, takeW, wds, stvs, sea, seaL, refs, refsL, refsEls, refsO, isPureEls, isPures, isPure, noExt, noExts, noExtEls, cellsL, ren, renL, renEls, keepO, keepS, keysO, refsS, refsOB, cntN, headC, setS, boxO, row, putW, putB, putB1, eNl, newOs, frz, renO, noExtO, zps, zp, two32, w64, -getElem?_pos]
theorem loopv99 (Φ : Sem') (N : Nat) (at' k : Nat) (q : Bool) (ys : List Int) (hy : ys.length ≤ 8) (hr : ∀ x ∈ ys, 0 ≤ x ∧ x ≤ 255) (h1 : at' < 1000000) (h2 : k < 1000000) : ∀ (j i e : Nat), i + j = ys.length →
    loopC (m33b0 Φ N []) (e + 1 + j) (slv at' k (val (ys.take i)) q (byL ys) ys.length i) [] = some (.tup [.i .u64 (val ys), .i .i64 ((at' + k : Nat) : Int)], []) := by
  intro j
  induction j with
  | zero =>
    intro i e h
    have : i = ys.length := by omega
    subst this
    rw [Nat.add_zero, k_loop, endv99 Φ N _ at' k _ q (byL ys) ys.length h1 h2, List.take_length]
  | succ j ih =>
    intro i e h
    have hi : i < ys.length := by omega
    have hv := val_range (ys.take i) (fun x hx => hr x (List.mem_of_mem_take hx))
    have hle : (ys.take i).length ≤ 7 := by rw [List.length_take]; omega
    have hp : (256 : Int) ^ (ys.take i).length ≤ 2 ^ 56 := (by decide : ∀ m ≤ 7, (256 : Int) ^ m ≤ 2 ^ 56) _ hle
    rw [← Nat.add_assoc, k_loop, stepv99 Φ N _ at' k _ ys[i] q (byL ys) ys.length i (by simp [byL, hi]) hi (by omega) ⟨hv.1, by omega⟩ (hr _ (List.getElem_mem hi))]
    rw [← val_app, List.take_append_getElem hi]
    exact ih (i + 1) e (by omega)
set_option maxHeartbeats 4000000 in
/-- A number is read. -/
theorem V99 (N d : Nat) (q : Bool) (bs : List Int) (at' k : Nat) (hk : 1 ≤ k ∧ k ≤ 8) (hb : bs.length < 1000000) (hr : ∀ x ∈ bs, 0 ≤ x ∧ x ≤ 255) (hf : at' + k ≤ bs.length) :
    sem tab (N + 100) (d + 2) 33 [.l q (byL bs), .i .i64 at', .i .i64 k] [] = some (.tup [.i .u64 (val ((bs.drop at').take k)), .i .i64 ((at' + k : Nat) : Int)], []) := by
  rw [sem_succ tab (N + 100) (d + 1) 33 m33 rfl]
  have h146 := U146 (N + 100) d k
  have b1 : inB k 1 8 = true := by simp only [inB, Bool.and_eq_true, decide_eq_true_eq]; omega
  rw [b1] at h146
  have hyl : ((bs.drop at').take k).length = k := by rw [List.length_take, List.length_drop]; omega
  have h := loopv99 (sem tab (N + 100) (d + 1)) (N + 100) at' k q ((bs.drop at').take k) (by omega) (fun x hx => hr x (List.mem_of_mem_drop (List.mem_of_mem_take hx))) (by omega) (by omega) k 0 (N + 99 - k) (by omega)
  rw [show N + 99 - k + 1 + k = N + 100 by omega, hyl] at h
  have hby : byL ((bs.drop at').take k) = ((byL bs).take (at' + k)).drop at' := by simp [byL, List.map_take, List.map_drop, List.drop_take]
  have hbl := byL_len bs
  have hll : (((byL bs).take (at' + k)).drop at').length = k := by rw [← hby, byL_len, hyl]
  rw [hby] at h
  simp only [slv, List.take_zero, show val [] = 0 from rfl] at h ⊢
  rw [show ((0 : Nat) : Int) = 0 from rfl] at h
  generalize val ((bs.drop at').take k) = V at *
  have c1 : ¬ ((at' : Int) < 0) := by omega
  have c2 : ¬ ((at' : Int) > (byL bs).length) := by omega
  have c3 : ¬ (((byL bs).length : Int) - at' < k) := by omega
  have w1 : IntKind.i64.wrap (((byL bs).length : Int) - at') = ((byL bs).length : Int) - at' := w64 (by omega) (by omega)
  have w2 : IntKind.i64.wrap ((at' : Int) + k) = ((at' + k : Nat) : Int) := by rw [w64 (by omega) (by omega)]; omega
  have t1 : ((at' + k : Nat) : Int).toNat = at' + k := by omega
  have t2 : (at' : Int).toNat = at' := by omega
  have c4 : (at' : Int) ≤ ((at' + k : Nat) : Int) := by omega
  have c5 : ((at' + k : Nat) : Int) ≤ (byL bs).length := by omega
  have hw := allW_by bs
  rw [k_loop] at h
  generalize byL bs = b at *
  generalize hz : ((at' + k : Nat) : Int) = z at *
  simp -implicitDefEqProofs (maxSteps := 1000000) (disch := first | omega | rfl) [m33, h146, c1, c2, c3, w1, w2, t1, t2, c4, c5, hll, hw, h, KS, getS, getO, gS, zipN, dropW, takeW, wds, stvs, sea, seaL, refs, refsL, refsEls, refsO, isPureEls, isPures, isPure, noExt, noExts, noExtEls, cellsL, ren, renL, renEls, keepO, keepS, keysO, refsS, refsOB, cntN, headC, setS, boxO, row, putW, putB, putB1, eNl, newOs, frz, renO, noExtO, zps, zp, two32, w64, -getElem?_pos]
end
section
def vAt (bs : List Int) (i k : Nat) : Int := val ((bs.drop i).take k)
theorem vAt_range (bs : List Int) (hr : ∀ x ∈ bs, 0 ≤ x ∧ x ≤ 255) (i k : Nat) (hk : k ≤ 4) : 0 ≤ vAt bs i k ∧ vAt bs i k < 4294967296 := by
  have h := val_range ((bs.drop i).take k) (fun x hx => hr x (List.mem_of_mem_drop (List.mem_of_mem_take hx)))
  have hl : ((bs.drop i).take k).length ≤ 4 := by rw [List.length_take]; omega
  have hp : (256 : Int) ^ ((bs.drop i).take k).length ≤ 4294967296 := (by decide : ∀ m ≤ 4, (256 : Int) ^ m ≤ 4294967296) _ hl
  exact ⟨h.1, by unfold vAt; omega⟩
end
section
theorem vAt_app (a b c : List Int) (k : Nat) (h : b.length = k) : vAt (a ++ (b ++ c)) a.length k = val b := by
  subst h
  simp [vAt]
end
section
/-- The sum of bytes. -/
noncomputable def sumI' (ys : List Int) : List Int := endI (rounds nFirst ys).1 (rounds nFirst ys).2 ys.length
end
section
noncomputable def h0 : List Int := sumI' [0]
end
section
set_option maxHeartbeats 4000000 in
theorem step32 (N d : Nat) (g : SL → OB → Option R) (a b : List (List PV)) (acc x y n : Int) (k : Nat) (hk : (k : Int) < n) (hn : n ≤ 4294967296) (ha : a[k]? = some [.i .u8 x]) (hb : b[k]? = some [.i .u8 y]) :
    m19b0 (sem tab N d) N [] g (sl32 a b acc n k) [] = g (sl32 a b (orX acc x y) n (k + 1 : Nat)) [] := by
  have c3 : (0 : Int) ≤ k := by omega
  have w1 : IntKind.i64.wrap ((k : Int) + 1) = (k : Int) + 1 := w64 (by omega) (by omega)
  simp -implicitDefEqProofs (maxSteps := 1000000) (disch := first | omega | rfl) [m19b0, sl32, hk, c3, ha, hb, w1, KS, getS, getO, gS, zipN, dropW, takeW, wds, stvs, sea, seaL, refs, refsL, refsEls, refsO, isPureEls, isPures, isPure, noExt, noExts, noExtEls, cellsL, ren, renL, renEls, keepO, keepS, keysO, refsS, refsOB, cntN, headC, setS, boxO, row, putW, putB, putB1, eNl, newOs, frz, renO, noExtO, zps, zp, two32, w64, -getElem?_pos]
  rfl
set_option maxHeartbeats 4000000 in
theorem end32 (N d : Nat) (g : SL → OB → Option R) (a b : List (List PV)) (acc n : Int) :
    m19b0 (sem tab N d) N [] g (sl32 a b acc n n) [] = some (.b (acc == 0), []) := by
  simp -implicitDefEqProofs (maxSteps := 1000000) (disch := first | omega | rfl) [m19b0, sl32, KS, getS, getO, gS, zipN, dropW, takeW, wds, stvs, sea, seaL, refs, refsL, refsEls, refsO, isPureEls, isPures, isPure, noExt, noExts, noExtEls, cellsL, ren, renL, renEls, keepO, keepS, keysO, refsS, refsOB, cntN, headC, setS, boxO, row, putW, putB, putB1, eNl, newOs, frz, renO, noExtO, zps, zp, two32, w64, -getElem?_pos]
theorem loop32 (xs ys : List Int) (hl : xs.length = ys.length) (hx : ∀ n ∈ xs, 0 ≤ n ∧ n ≤ 255) (hy : ∀ n ∈ ys, 0 ≤ n ∧ n ≤ 255) (hm : xs.length ≤ 4294967296) : ∀ (n k : Nat) (A : BitVec 8), k + n = xs.length → ∀ N d M : Nat, loopC (m19b0 (sem tab N d) N []) (M + 1 + n) (sl32 (byL xs) (byL ys) A.toNat xs.length k) [] = some (.b (decide (A = 0#8 ∧ xs.drop k = ys.drop k)), []) := by
  intro n
  induction n with
  | zero =>
    intro k A hk N d M
    have : k = xs.length := by omega
    subst this
    rw [Nat.add_zero, k_loop, end32]
    have e1 : xs.drop xs.length = [] := List.drop_length
    have e2 : ys.drop xs.length = [] := by rw [hl]; exact List.drop_length
    rw [e1, e2]
    congr 3
    rw [Bool.eq_iff_iff]
    simp only [beq_iff_eq, decide_eq_true_eq, and_true]
    constructor
    · intro h
      apply BitVec.eq_of_toNat_eq
      simp only [BitVec.toNat_ofNat]; omega
    · rintro rfl; rfl
  | succ n ih =>
    intro k A hk N d M
    have kx : k < xs.length := by omega
    have ky : k < ys.length := by omega
    have gx : xs[k]? = some xs[k] := List.getElem?_eq_getElem kx
    have gy : ys[k]? = some ys[k] := List.getElem?_eq_getElem ky
    rw [show M + 1 + (n + 1) = (M + 1 + n) + 1 by omega, k_loop, step32 N d _ _ _ _ xs[k] ys[k] _ k (by omega) (by omega) (by rw [byL_get, gx]; rfl) (by rw [byL_get, gy]; rfl), orX_law]
    rw [ih (k + 1) _ (by omega)]
    congr 3
    rw [Bool.eq_iff_iff]
    simp only [decide_eq_true_eq]
    rw [or0, ofI_inj (hx _ (List.getElem_mem kx)) (hy _ (List.getElem_mem ky)), List.drop_eq_getElem_cons kx, List.drop_eq_getElem_cons ky, List.cons.injEq, and_assoc]
set_option maxHeartbeats 4000000 in
/-- Two byte rows are the same. -/
theorem L32 (M d : Nat) (xs ys : List Int) (hx : ∀ n ∈ xs, 0 ≤ n ∧ n ≤ 255) (hy : ∀ n ∈ ys, 0 ≤ n ∧ n ≤ 255) (hm : xs.length ≤ 900) : sem tab (M + 1000) (d + 1) 19 [.l false (byL xs), .l false (byL ys)] [] = some (.b (decide (xs = ys)), []) := by
  rw [sem_succ tab (M + 1000) d 19 m19 rfl]
  have hlx := byL_len xs
  have hly := byL_len ys
  by_cases hl : xs.length = ys.length
  · have h := loop32 xs ys hl hx hy (by omega) xs.length 0 0#8 (by omega) (M + 1000) d (M + 999 - xs.length)
    rw [show M + 999 - xs.length + 1 + xs.length = M + 1000 by omega] at h
    simp only [List.drop_zero, true_and] at h
    rw [← hlx] at h hl
    rw [← hly] at hl
    generalize byL xs = a at *
    generalize byL ys = b at *
    simp only [sl32] at h
    have e : (a.length : Int) = b.length := by omega
    have e2 : ((b.length : Int) != b.length) = false := by simp
    rw [hl] at h
    simp -implicitDefEqProofs (maxSteps := 1000000) (disch := first | omega | rfl) [m19, hl, e2, KS, getS, getO, gS, zipN, dropW, takeW, wds, stvs, sea, seaL, refs, refsL, refsEls, refsO, isPureEls, isPures, isPure, noExt, noExts, noExtEls, cellsL, ren, renL, renEls, keepO, keepS, keysO, refsS, refsOB, cntN, headC, setS, boxO, row, putW, putB, putB1, eNl, newOs, frz, renO, noExtO, zps, zp, two32, w64, -getElem?_pos]
    exact h
  · have hne : ¬ xs = ys := fun h => hl (by rw [h])
    rw [decide_eq_false hne]
    rw [← hlx, ← hly] at hl
    generalize byL xs = a at *
    generalize byL ys = b at *
    have e : ¬ (a.length : Int) = b.length := by omega
    have e2 : ((a.length : Int) != b.length) = true := by simp only [bne_iff_ne, ne_eq]; exact e
    simp -implicitDefEqProofs (maxSteps := 1000000) (disch := first | omega | rfl) [m19, hl, e, e2, KS, getS, getO, gS, zipN, dropW, takeW, wds, stvs, sea, seaL, refs, refsL, refsEls, refsO, isPureEls, isPures, isPure, noExt, noExts, noExtEls, cellsL, ren, renL, renEls, keepO, keepS, keysO, refsS, refsOB, cntN, headC, setS, boxO, row, putW, putB, putB1, eNl, newOs, frz, renO, noExtO, zps, zp, two32, w64, -getElem?_pos]
end
section
/-- A frame's numbers, and its tag. -/
structure Fra where
  kind : Int
  user : Int
  sess : Int
  cn : Int
  epoch : Int
  count : Int
  cmd : Int
  arg : Int
  tag : List Int
def frC (f : Fra) : List PV := [.i .i64 f.kind, .i .i64 f.user, .i .u64 f.sess, .i .u64 f.cn, .i .i64 f.epoch, .i .u64 f.count, .i .i64 f.cmd, .i .i64 f.arg, .blob 32 (uL f.tag)]
def z32 : List Int := List.replicate 32 0
def zeF : Fra := ⟨0, 0, 0, 0, 0, 0, 0, 0, z32⟩
/-- What numbers can be there. -/
structure okF (f : Fra) : Prop where
  sess : 0 ≤ f.sess ∧ f.sess < 18446744073709551616
  cn : 0 ≤ f.cn ∧ f.cn < 18446744073709551616
  count : 0 ≤ f.count ∧ f.count < 18446744073709551616
  tag : f.tag.length = 32
  tagr : ∀ x ∈ f.tag, 0 ≤ x ∧ x ≤ 255
theorem z32_len : z32.length = 32 := by simp [z32]
theorem z32_range : ∀ x ∈ z32, 0 ≤ x ∧ x ≤ 255 := fun x hx => by
  unfold z32 at hx
  rw [List.mem_replicate] at hx; omega
theorem okF_ze : okF zeF := ⟨⟨by decide, by decide⟩, ⟨by decide, by decide⟩, ⟨by decide, by decide⟩, z32_len, z32_range⟩
/-- Are two the same? -/
def eqFr (f g : Fra) : Bool := (f.kind == g.kind) && ((f.user == g.user) && ((f.sess == g.sess) && ((f.cn == g.cn) && ((f.epoch == g.epoch) && ((f.count == g.count) && ((f.cmd == g.cmd) && ((f.arg == g.arg) && decide (f.tag = g.tag))))))))
theorem eqFr_iff (f g : Fra) : eqFr f g = true ↔ f = g := by
  obtain ⟨a1, a2, a3, a4, a5, a6, a7, a8, a9⟩ := f
  obtain ⟨b1, b2, b3, b4, b5, b6, b7, b8, b9⟩ := g
  simp only [eqFr, Bool.and_eq_true, beq_iff_eq, decide_eq_true_eq, Fra.mk.injEq]
theorem eqFr_self (f : Fra) : eqFr f f = true := (eqFr_iff f f).2 rfl
theorem eqFr_ne {f g : Fra} (h : f ≠ g) : eqFr f g = false := by
  rw [← Bool.not_eq_true]; exact fun e => h ((eqFr_iff f g).1 e)
/-- The fields of its kind alone. -/
def bareF (f : Fra) : Fra :=
  if f.kind = 0 then ⟨0, f.user, 0, f.cn, 0, 0, 0, 0, z32⟩
  else if f.kind = 1 then ⟨1, 0, f.sess, 0, f.epoch, 0, 0, 0, z32⟩
  else if f.kind = 2 then ⟨2, 0, f.sess, 0, 0, 0, 0, 0, f.tag⟩
  else if f.kind = 3 then ⟨3, 0, f.sess, 0, 0, 0, 0, 0, f.tag⟩
  else if f.kind = 4 then ⟨4, 0, f.sess, 0, 0, f.count, f.cmd, f.arg, f.tag⟩
  else if f.kind = 5 then ⟨5, 0, f.sess, 0, 0, f.count, f.cmd, f.arg, f.tag⟩
  else ⟨f.kind, 0, 0, 0, 0, 0, f.cmd, 0, z32⟩
def plainF (f : Fra) : Bool := inB f.kind 0 6 && (inB f.user 0 255 && (inB f.epoch 0 1073741824 && (inB f.cmd 0 255 && (inB f.arg 0 65535 && eqFr (bareF f) f))))
def tagdF (k : Int) : Bool := inB k 2 5
/-- The numbers of a frame, and how many bytes each takes. -/
def numsF (f : Fra) : List (Int × Nat) :=
  if f.kind = 0 then [(f.user, 1), (f.cn, 8)]
  else if f.kind = 1 then [(f.sess, 8), (f.epoch, 4)]
  else if f.kind = 2 then [(f.sess, 8)]
  else if f.kind = 3 then [(f.sess, 8)]
  else if f.kind = 4 then [(f.sess, 8), (f.count, 8), (f.cmd, 1), (f.arg, 2)]
  else if f.kind = 5 then [(f.sess, 8), (f.count, 8), (f.cmd, 1), (f.arg, 2)]
  else [(f.cmd, 1)]
/-- How many bytes follow the first two. -/
def szF (k : Int) : Nat :=
  if k = 0 then 10 else if k = 1 then 13 else if k = 2 then 41 else if k = 3 then 41 else if k = 4 then 52 else if k = 5 then 52 else 2
def allF (f : Fra) : List (Int × Nat) := ((szF f.kind : Int), 2) :: (f.kind, 1) :: numsF f
def frontF (f : Fra) : List Int := catB (allF f)
def putF (f : Fra) : List Int := frontF f ++ cond (tagdF f.kind) f.tag []
theorem kinds {k : Int} (h : inB k 0 6 = true) : k = 0 ∨ k = 1 ∨ k = 2 ∨ k = 3 ∨ k = 4 ∨ k = 5 ∨ k = 6 := by
  simp only [inB, Bool.and_eq_true, decide_eq_true_eq] at h; omega
structure PlF (f : Fra) : Prop where
  kind : inB f.kind 0 6 = true
  user : 0 ≤ f.user ∧ f.user ≤ 255
  epoch : 0 ≤ f.epoch ∧ f.epoch ≤ 1073741824
  cmd : 0 ≤ f.cmd ∧ f.cmd ≤ 255
  arg : 0 ≤ f.arg ∧ f.arg ≤ 65535
  bare : bareF f = f
theorem plainF_iff (f : Fra) : plainF f = true ↔ PlF f := by
  unfold plainF
  constructor
  · intro h
    simp only [Bool.and_eq_true, eqFr_iff] at h
    obtain ⟨h1, h2, h3, h4, h5, h6⟩ := h
    simp only [inB, Bool.and_eq_true, decide_eq_true_eq] at h2 h3 h4 h5
    exact ⟨h1, h2, h3, h4, h5, h6⟩
  · rintro ⟨h1, h2, h3, h4, h5, h6⟩
    simp only [Bool.and_eq_true, eqFr_iff]
    simp only [inB, Bool.and_eq_true, decide_eq_true_eq] at h1 ⊢
    exact ⟨h1, h2, h3, h4, h5, h6⟩
theorem fitsB_of {n : Int} {k : Nat} (h0 : 0 ≤ n) (h : n < 256 ^ k) : fitsB n k = true := by
  unfold fitsB; rw [Int.ediv_eq_zero_of_lt h0 h]; simp
theorem fitAll_allF (f : Fra) (h : PlF f) (o : okF f) : fitAll (allF f) = true := by
  obtain ⟨h1, h2, h3, h4, h5, _⟩ := h
  obtain ⟨o1, o2, o3, _, _⟩ := o
  have hk := kinds h1
  have q1 : fitsB f.user 1 = true := fitsB_of h2.1 (by omega)
  have q2 : fitsB f.cn 8 = true := fitsB_of o2.1 (by omega)
  have q3 : fitsB f.sess 8 = true := fitsB_of o1.1 (by omega)
  have q4 : fitsB f.epoch 4 = true := fitsB_of h3.1 (by omega)
  have q5 : fitsB f.count 8 = true := fitsB_of o3.1 (by omega)
  have q6 : fitsB f.cmd 1 = true := fitsB_of h4.1 (by omega)
  have q7 : fitsB f.arg 2 = true := fitsB_of h5.1 (by omega)
  have q8 : fitsB f.kind 1 = true := fitsB_of (by omega) (by omega)
  have q9 : fitsB (szF f.kind : Int) 2 = true := fitsB_of (by omega) (by
    unfold szF; rcases hk with e | e | e | e | e | e | e <;> rw [e] <;> decide)
  simp only [allF, fitAll, q8, q9, Bool.true_and]
  unfold numsF
  rcases hk with e | e | e | e | e | e | e <;> rw [e] <;> simp [fitAll, q1, q2, q3, q4, q5, q6, q7]
theorem okNu_allF (f : Fra) (h : PlF f) (o : okF f) : ∀ x ∈ allF f, okNu x := by
  obtain ⟨h1, h2, h3, h4, h5, _⟩ := h
  obtain ⟨o1, o2, o3, _, _⟩ := o
  have hk := kinds h1
  have q1 : okNu (f.user, 1) := ⟨Nat.le_of_ble_eq_true rfl, Nat.le_of_ble_eq_true rfl, by simp only; omega, by simp only; omega⟩
  have q2 : okNu (f.cn, 8) := ⟨Nat.le_of_ble_eq_true rfl, Nat.le_of_ble_eq_true rfl, by simp only; omega, by simp only; omega⟩
  have q3 : okNu (f.sess, 8) := ⟨Nat.le_of_ble_eq_true rfl, Nat.le_of_ble_eq_true rfl, by simp only; omega, by simp only; omega⟩
  have q4 : okNu (f.epoch, 4) := ⟨Nat.le_of_ble_eq_true rfl, Nat.le_of_ble_eq_true rfl, by simp only; omega, by simp only; omega⟩
  have q5 : okNu (f.count, 8) := ⟨Nat.le_of_ble_eq_true rfl, Nat.le_of_ble_eq_true rfl, by simp only; omega, by simp only; omega⟩
  have q6 : okNu (f.cmd, 1) := ⟨Nat.le_of_ble_eq_true rfl, Nat.le_of_ble_eq_true rfl, by simp only; omega, by simp only; omega⟩
  have q7 : okNu (f.arg, 2) := ⟨Nat.le_of_ble_eq_true rfl, Nat.le_of_ble_eq_true rfl, by simp only; omega, by simp only; omega⟩
  have q8 : okNu (f.kind, 1) := ⟨Nat.le_of_ble_eq_true rfl, Nat.le_of_ble_eq_true rfl, by simp only; omega, by simp only; omega⟩
  have hs : szF f.kind ≤ 52 := by unfold szF; rcases hk with e | e | e | e | e | e | e <;> rw [e] <;> decide
  have q9 : okNu ((szF f.kind : Int), 2) := ⟨Nat.le_of_ble_eq_true rfl, Nat.le_of_ble_eq_true rfl, by simp only; omega, by simp only; omega⟩
  intro x hx
  simp only [allF, List.mem_cons] at hx
  rcases hx with rfl | rfl | hx
  · exact q9
  · exact q8
  · unfold numsF at hx
    rcases hk with e | e | e | e | e | e | e <;> rw [e] at hx <;> simp at hx
    · rcases hx with rfl | rfl <;> assumption
    · rcases hx with rfl | rfl <;> assumption
    · subst hx; assumption
    · subst hx; assumption
    · rcases hx with rfl | rfl | rfl | rfl <;> assumption
    · rcases hx with rfl | rfl | rfl | rfl <;> assumption
    · subst hx; assumption
theorem numsF_len (f : Fra) : (numsF f).length ≤ 4 := by
  unfold numsF
  repeat' split
  all_goals simp
/-- How many bytes stand ahead of the tag. -/
def aheadF (k : Int) : Nat :=
  if k = 0 then 12 else if k = 1 then 15 else if k = 2 then 11 else if k = 3 then 11 else if k = 4 then 22 else if k = 5 then 22 else 4
theorem frontF_len (f : Fra) : (frontF f).length = aheadF f.kind := by
  unfold frontF allF numsF aheadF
  simp only [catB, List.length_append, be_len]
  repeat' split
  all_goals simp [catB, be_len]
theorem putF_len (f : Fra) (h : inB f.kind 0 6 = true) (ht : f.tag.length = 32) : (putF f).length = szF f.kind + 2 := by
  unfold putF
  rw [List.length_append, frontF_len]
  rcases kinds h with e | e | e | e | e | e | e <;> rw [e] <;> simp [aheadF, szF, tagdF, inB, ht]
theorem putF_range (f : Fra) (h : ∀ x ∈ f.tag, 0 ≤ x ∧ x ≤ 255) : ∀ x ∈ putF f, 0 ≤ x ∧ x ≤ 255 := by
  intro x hx
  unfold putF at hx
  rw [List.mem_append] at hx
  rcases hx with hx | hx
  · exact catB_range _ x hx
  · cases hb : tagdF f.kind <;> rw [hb] at hx
    · cases hx
    · exact h x hx
/-- 32 bytes that stand at i, as far as they are there. -/
def tgAt (b : List Int) (i : Nat) : List Int := (b.drop i).take 32 ++ z32.drop (min (b.length - i) 32)
/-- What bytes seem to be. -/
def getF (k : Int) (b : List Int) : Fra :=
  if k = 0 then ⟨0, vAt b 3 1, 0, vAt b 4 8, 0, 0, 0, 0, z32⟩
  else if k = 1 then ⟨1, 0, vAt b 3 8, 0, vAt b 11 4, 0, 0, 0, z32⟩
  else if k = 2 then ⟨2, 0, vAt b 3 8, 0, 0, 0, 0, 0, tgAt b 11⟩
  else if k = 3 then ⟨3, 0, vAt b 3 8, 0, 0, 0, 0, 0, tgAt b 11⟩
  else if k = 4 then ⟨4, 0, vAt b 3 8, 0, 0, vAt b 11 8, vAt b 19 1, vAt b 20 2, tgAt b 22⟩
  else if k = 5 then ⟨5, 0, vAt b 3 8, 0, 0, vAt b 11 8, vAt b 19 1, vAt b 20 2, tgAt b 22⟩
  else ⟨k, 0, 0, 0, 0, 0, vAt b 3 1, 0, z32⟩
theorem tgAt_len (b : List Int) (i : Nat) : (tgAt b i).length = 32 := by simp [tgAt, z32]; omega
theorem tgAt_range (b : List Int) (i : Nat) (h : ∀ x ∈ b, 0 ≤ x ∧ x ≤ 255) : ∀ x ∈ tgAt b i, 0 ≤ x ∧ x ≤ 255 := by
  intro x hx
  unfold tgAt at hx
  rw [List.mem_append] at hx
  rcases hx with hx | hx
  · exact h x (List.mem_of_mem_drop (List.mem_of_mem_take hx))
  · exact z32_range x (List.mem_of_mem_drop hx)
theorem vAt8 (b : List Int) (h : ∀ x ∈ b, 0 ≤ x ∧ x ≤ 255) (i k : Nat) (hk : k ≤ 8) : 0 ≤ vAt b i k ∧ vAt b i k < 18446744073709551616 := by
  have h := val_range ((b.drop i).take k) (fun x hx => h x (List.mem_of_mem_drop (List.mem_of_mem_take hx)))
  have hl : ((b.drop i).take k).length ≤ 8 := by rw [List.length_take]; omega
  have hp : (256 : Int) ^ ((b.drop i).take k).length ≤ 18446744073709551616 := (by decide : ∀ m ≤ 8, (256 : Int) ^ m ≤ 18446744073709551616) _ hl
  exact ⟨h.1, by unfold vAt; omega⟩
theorem okF_get (k : Int) (b : List Int) (h : ∀ x ∈ b, 0 ≤ x ∧ x ≤ 255) : okF (getF k b) := by
  have q := fun i => vAt8 b h i 8 (Nat.le_refl _)
  have z : (0 : Int) ≤ 0 ∧ (0 : Int) < 18446744073709551616 := by decide
  have t := tgAt_len b
  have t' := fun i => tgAt_range b i h
  unfold getF
  repeat' split
  all_goals exact ⟨by first | exact z | exact q _, by first | exact z | exact q _, by first | exact z | exact q _, by first | exact z32_len | exact t _, by first | exact z32_range | exact t' _⟩
theorem vAt_be (i k : Nat) (n : Int) (a c : List Int) (ha : a.length = i) (h0 : 0 ≤ n) (h1 : n < 256 ^ k) : vAt (a ++ (be k n ++ c)) i k = n := by
  subst ha
  rw [vAt_app a (be k n) c k (be_len k n), val_be, Int.emod_eq_of_lt h0 h1]
theorem tgAt_app (a t : List Int) (i : Nat) (ha : a.length = i) (ht : t.length = 32) : tgAt (a ++ t) i = t := by
  subst ha
  unfold tgAt
  rw [List.drop_left, List.take_of_length_le (by omega), List.length_append]
  rw [List.drop_of_length_le (by rw [z32_len]; omega), List.append_nil]
/-- What is put is read as it. -/
theorem get_put (f : Fra) (h : PlF f) (o : okF f) : getF f.kind (putF f) = f := by
  obtain ⟨h1, h2, h3, h4, h5, h6⟩ := h
  obtain ⟨o1, o2, o3, o4, _⟩ := o
  have hk := kinds h1
  obtain ⟨a1, a2, a3, a4, a5, a6, a7, a8, a9⟩ := f
  simp only at *
  rcases hk with e | e | e | e | e | e | e <;> subst e <;> simp [bareF] at h6 <;> simp [putF, frontF, allF, numsF, szF, tagdF, inB, catB, getF]
  · obtain ⟨rfl, rfl, rfl, rfl, rfl, rfl⟩ := h6
    have x1 := vAt_be 3 1 a2 (be 2 10 ++ be 1 0) (be 8 a4) (by simp [be_len]) (by omega) (by omega)
    have x2 := vAt_be 4 8 a4 (be 2 10 ++ (be 1 0 ++ be 1 a2)) [] (by simp [be_len]) (by omega) (by omega)
    simp only [List.append_assoc, List.append_nil] at x1 x2
    simp [x1, x2]
  · obtain ⟨rfl, rfl, rfl, rfl, rfl, rfl⟩ := h6
    have x1 := vAt_be 3 8 a3 (be 2 13 ++ be 1 1) (be 4 a5) (by simp [be_len]) (by omega) (by omega)
    have x2 := vAt_be 11 4 a5 (be 2 13 ++ (be 1 1 ++ be 8 a3)) [] (by simp [be_len]) (by omega) (by omega)
    simp only [List.append_assoc, List.append_nil] at x1 x2
    simp [x1, x2]
  · obtain ⟨rfl, rfl, rfl, rfl, rfl, rfl⟩ := h6
    have x1 := vAt_be 3 8 a3 (be 2 41 ++ be 1 2) a9 (by simp [be_len]) (by omega) (by omega)
    have x2 := tgAt_app (be 2 41 ++ (be 1 2 ++ be 8 a3)) a9 11 (by simp [be_len]) o4
    simp only [List.append_assoc, List.append_nil] at x1 x2
    simp [x1, x2]
  · obtain ⟨rfl, rfl, rfl, rfl, rfl, rfl⟩ := h6
    have x1 := vAt_be 3 8 a3 (be 2 41 ++ be 1 3) a9 (by simp [be_len]) (by omega) (by omega)
    have x2 := tgAt_app (be 2 41 ++ (be 1 3 ++ be 8 a3)) a9 11 (by simp [be_len]) o4
    simp only [List.append_assoc, List.append_nil] at x1 x2
    simp [x1, x2]
  · obtain ⟨rfl, rfl, rfl⟩ := h6
    have x1 := vAt_be 3 8 a3 (be 2 52 ++ be 1 4) (be 8 a6 ++ (be 1 a7 ++ (be 2 a8 ++ a9))) (by simp [be_len]) (by omega) (by omega)
    have x2 := vAt_be 11 8 a6 (be 2 52 ++ (be 1 4 ++ be 8 a3)) (be 1 a7 ++ (be 2 a8 ++ a9)) (by simp [be_len]) (by omega) (by omega)
    have x3 := vAt_be 19 1 a7 (be 2 52 ++ (be 1 4 ++ (be 8 a3 ++ be 8 a6))) (be 2 a8 ++ a9) (by simp [be_len]) (by omega) (by omega)
    have x4 := vAt_be 20 2 a8 (be 2 52 ++ (be 1 4 ++ (be 8 a3 ++ (be 8 a6 ++ be 1 a7)))) a9 (by simp [be_len]) (by omega) (by omega)
    have x5 := tgAt_app (be 2 52 ++ (be 1 4 ++ (be 8 a3 ++ (be 8 a6 ++ (be 1 a7 ++ be 2 a8))))) a9 22 (by simp [be_len]) o4
    simp only [List.append_assoc, List.append_nil] at x1 x2 x3 x4 x5
    simp [x1, x2, x3, x4, x5]
  · obtain ⟨rfl, rfl, rfl⟩ := h6
    have x1 := vAt_be 3 8 a3 (be 2 52 ++ be 1 5) (be 8 a6 ++ (be 1 a7 ++ (be 2 a8 ++ a9))) (by simp [be_len]) (by omega) (by omega)
    have x2 := vAt_be 11 8 a6 (be 2 52 ++ (be 1 5 ++ be 8 a3)) (be 1 a7 ++ (be 2 a8 ++ a9)) (by simp [be_len]) (by omega) (by omega)
    have x3 := vAt_be 19 1 a7 (be 2 52 ++ (be 1 5 ++ (be 8 a3 ++ be 8 a6))) (be 2 a8 ++ a9) (by simp [be_len]) (by omega) (by omega)
    have x4 := vAt_be 20 2 a8 (be 2 52 ++ (be 1 5 ++ (be 8 a3 ++ (be 8 a6 ++ be 1 a7)))) a9 (by simp [be_len]) (by omega) (by omega)
    have x5 := tgAt_app (be 2 52 ++ (be 1 5 ++ (be 8 a3 ++ (be 8 a6 ++ (be 1 a7 ++ be 2 a8))))) a9 22 (by simp [be_len]) o4
    simp only [List.append_assoc, List.append_nil] at x1 x2 x3 x4 x5
    simp [x1, x2, x3, x4, x5]
  · obtain ⟨rfl, rfl, rfl, rfl, rfl, rfl, rfl⟩ := h6
    have x1 := vAt_be 3 1 a7 (be 2 2 ++ be 1 6) [] (by simp [be_len]) (by omega) (by omega)
    simp only [List.append_assoc, List.append_nil] at x1
    simp [x1]
/-- The first two bytes, and the third. -/
theorem putF_head (f : Fra) (h : inB f.kind 0 6 = true) : ∃ r, putF f = [0, (szF f.kind : Int), f.kind] ++ r := by
  unfold putF frontF allF
  simp only [catB]
  have h1 : be 1 f.kind = [f.kind] := by
    rcases kinds h with e | e | e | e | e | e | e <;> rw [e] <;> rfl
  have h2 : be 2 (szF f.kind : Int) = [0, (szF f.kind : Int)] := by
    rcases kinds h with e | e | e | e | e | e | e <;> rw [e] <;> rfl
  rw [h1, h2]
  exact ⟨_, by simp only [List.append_assoc, List.cons_append, List.nil_append]; rfl⟩
end
section
/-- How many bytes a frame has, as its first two tell. -/
def longF (b : List Int) : Int := if b.length < 2 then -1 else if val (b.take 2) > (b.length : Int) - 2 then -1 else 2 + val (b.take 2)
/-- The frame that bytes seem to be. -/
def seemF (b : List Int) : Fra := getF (b.getD 2 0) b
def goodF (b : List Int) : Bool := plainF (seemF b) && decide (putF (seemF b) = b)
def errF (b : List Int) : Int := if 64 < b.length then 2 else if longF b = -1 then 4 else 3
theorem szF_le (k : Int) : 2 ≤ szF k ∧ szF k ≤ 52 := by
  unfold szF
  repeat' split
  all_goals omega
theorem head2 (f : Fra) (h : inB f.kind 0 6 = true) (r : List Int) : val ((putF f ++ r).take 2) = (szF f.kind : Int) := by
  obtain ⟨s, e⟩ := putF_head f h
  rw [e]
  simp [val]
theorem long_put (f : Fra) (h : inB f.kind 0 6 = true) (ht : f.tag.length = 32) (r : List Int) : longF (putF f ++ r) = ((putF f).length : Int) := by
  have hl := putF_len f h ht
  have h2 := head2 f h r
  unfold longF
  rw [h2, hl, List.length_append, hl, if_neg (by omega), if_neg (by omega)]
  omega
theorem seem_put (f : Fra) (h : PlF f) (o : okF f) : seemF (putF f) = f := by
  obtain ⟨s, e⟩ := putF_head f h.kind
  have : (putF f).getD 2 0 = f.kind := by rw [e]; rfl
  unfold seemF
  rw [this]; exact get_put f h o
theorem good_put (f : Fra) (h : PlF f) (o : okF f) : goodF (putF f) = true := by
  unfold goodF
  rw [seem_put f h o, (plainF_iff f).2 h]; simp
theorem good_of {b : List Int} (hr : ∀ x ∈ b, 0 ≤ x ∧ x ≤ 255) (h : goodF b = true) : PlF (seemF b) ∧ okF (seemF b) ∧ putF (seemF b) = b := by
  unfold goodF at h
  simp only [Bool.and_eq_true, decide_eq_true_eq] at h
  exact ⟨(plainF_iff _).1 h.1, okF_get _ b hr, h.2⟩
theorem good_len {b : List Int} (hr : ∀ x ∈ b, 0 ≤ x ∧ x ≤ 255) (h : goodF b = true) : longF b = b.length ∧ b.length ≤ 54 ∧ 4 ≤ b.length := by
  obtain ⟨h1, h2, h3⟩ := good_of hr h
  have := long_put _ h1.kind h2.tag []
  have hl := putF_len _ h1.kind h2.tag
  have hs := szF_le (seemF b).kind
  rw [List.append_nil, h3] at this
  rw [h3] at hl
  exact ⟨this, by omega, by omega⟩
theorem val_nn (l : List Int) (h : ∀ x ∈ l, 0 ≤ x ∧ x ≤ 255) : 0 ≤ val l := (val_range l h).1
theorem long_cases (b : List Int) (hr : ∀ x ∈ b, 0 ≤ x ∧ x ≤ 255) : longF b = -1 ∨ (2 ≤ longF b ∧ longF b ≤ b.length) := by
  have h0 := val_nn (b.take 2) (fun x hx => hr x (List.mem_of_mem_take hx))
  unfold longF
  split
  · exact .inl rfl
  · split
    · exact .inl rfl
    · right; constructor <;> omega
end
section
/-- A field that is a number, one that is a long one: where it is, and how many bytes it takes. -/
def sN (o i : Nat) (k : Int) : List PV := [.p o 0 0 i none, .np, .i .i64 k]
def sU (o i : Nat) (k : Int) : List PV := [.np, .p o 0 0 i none, .i .i64 k]
def rowS (l : List (List PV)) (c : Option Nat) : Obj' := { els := l, w := 3, pu := false, g := true, cap := c, ver := 0, fro := false }
theorem rg1 : List.range 1 = [0] := rfl
theorem rg2 : List.range 2 = [0, 1] := rfl
theorem rg3 : List.range 3 = [0, 1, 2] := rfl
theorem rg4 : List.range 4 = [0, 1, 2, 3] := rfl
def fbox (f : Fra) : Obj' := box (frC f) 40
end
section
theorem bnd_cg {α β : Type} {x y : Option α} {K : α → Option β} (h : x = y) : bnd x K = bnd y K := by rw [h]
theorem bndO_cg {β : Type} {x y : Option Up} {ob : OB} {K : PV → OB → Option β} (h : x = y) : bndO x ob K = bndO y ob K := by rw [h]
theorem br_cg {c c' : PV} {A B : Option (PV × List Obj')} (h : c = c') : br c A B = br c' A B := by rw [h]
theorem k_cnt0 (o : Nat) : cntN o [] = 0 := rfl
theorem k_cnt (o x : Nat) (r : List Nat) : cntN o (x :: r) = (if x = o then 1 else 0) + cntN o r := by simp only [cntN]; split <;> omega
theorem k_ncp (o v i f : Nat) (b : Option Nat) : nc (.p o v i f b) = some (.p o v i f b) := rfl
/-- The fields of a frame of a kind, in the object o. -/
def slF (o : Nat) (k : Int) : List (List PV) :=
  if k = 0 then [sN o 1 1, sU o 3 8] else if k = 1 then [sU o 2 8, sN o 4 4] else if k = 2 then [sU o 2 8] else if k = 3 then [sU o 2 8]
  else if k = 4 then [sU o 2 8, sU o 5 8, sN o 6 1, sN o 7 2] else if k = 5 then [sU o 2 8, sU o 5 8, sN o 6 1, sN o 7 2] else [sN o 6 1]
def cpF (k : Int) : Option Nat := if k = 0 then some 2 else if k = 1 then some 2 else if k = 6 then some 1 else none
theorem V22_0 (N d : Nat) (a2 a3 a4 a5 a6 a7 a8 : Int) (a9 : List Int) : sem tab N (d + 2) 32 [.p 0 0 0 0 none] [fbox ⟨0, a2, a3, a4, a5, a6, a7, a8, a9⟩] = some (.tup [.sl 1 0 0 (slF 0 0).length, .b (tagdF 0)], [fbox ⟨0, a2, a3, a4, a5, a6, a7, a8, a9⟩, rowS (slF 0 0) (cpF 0)]) := by
  kernel_rfl
theorem V22_1 (N d : Nat) (a2 a3 a4 a5 a6 a7 a8 : Int) (a9 : List Int) : sem tab N (d + 2) 32 [.p 0 0 0 0 none] [fbox ⟨1, a2, a3, a4, a5, a6, a7, a8, a9⟩] = some (.tup [.sl 1 0 0 (slF 0 1).length, .b (tagdF 1)], [fbox ⟨1, a2, a3, a4, a5, a6, a7, a8, a9⟩, rowS (slF 0 1) (cpF 1)]) := by
  kernel_rfl
theorem V22_2 (N d : Nat) (a2 a3 a4 a5 a6 a7 a8 : Int) (a9 : List Int) : sem tab N (d + 2) 32 [.p 0 0 0 0 none] [fbox ⟨2, a2, a3, a4, a5, a6, a7, a8, a9⟩] = some (.tup [.sl 1 0 0 (slF 0 2).length, .b (tagdF 2)], [fbox ⟨2, a2, a3, a4, a5, a6, a7, a8, a9⟩, rowS (slF 0 2) (cpF 2)]) := by
  kernel_rfl
theorem V22_3 (N d : Nat) (a2 a3 a4 a5 a6 a7 a8 : Int) (a9 : List Int) : sem tab N (d + 2) 32 [.p 0 0 0 0 none] [fbox ⟨3, a2, a3, a4, a5, a6, a7, a8, a9⟩] = some (.tup [.sl 1 0 0 (slF 0 3).length, .b (tagdF 3)], [fbox ⟨3, a2, a3, a4, a5, a6, a7, a8, a9⟩, rowS (slF 0 3) (cpF 3)]) := by
  kernel_rfl
theorem V22_4 (N d : Nat) (a2 a3 a4 a5 a6 a7 a8 : Int) (a9 : List Int) : sem tab N (d + 2) 32 [.p 0 0 0 0 none] [fbox ⟨4, a2, a3, a4, a5, a6, a7, a8, a9⟩] = some (.tup [.sl 1 0 0 (slF 0 4).length, .b (tagdF 4)], [fbox ⟨4, a2, a3, a4, a5, a6, a7, a8, a9⟩, rowS (slF 0 4) (cpF 4)]) := by
  kernel_rfl
theorem V22_5 (N d : Nat) (a2 a3 a4 a5 a6 a7 a8 : Int) (a9 : List Int) : sem tab N (d + 2) 32 [.p 0 0 0 0 none] [fbox ⟨5, a2, a3, a4, a5, a6, a7, a8, a9⟩] = some (.tup [.sl 1 0 0 (slF 0 5).length, .b (tagdF 5)], [fbox ⟨5, a2, a3, a4, a5, a6, a7, a8, a9⟩, rowS (slF 0 5) (cpF 5)]) := by
  kernel_rfl
theorem V22_6 (N d : Nat) (a2 a3 a4 a5 a6 a7 a8 : Int) (a9 : List Int) : sem tab N (d + 2) 32 [.p 0 0 0 0 none] [fbox ⟨6, a2, a3, a4, a5, a6, a7, a8, a9⟩] = some (.tup [.sl 1 0 0 (slF 0 6).length, .b (tagdF 6)], [fbox ⟨6, a2, a3, a4, a5, a6, a7, a8, a9⟩, rowS (slF 0 6) (cpF 6)]) := by
  kernel_rfl
/-- The fields of a frame. -/
theorem V22 (N d : Nat) (f : Fra) (hk : inB f.kind 0 6 = true) : sem tab N (d + 2) 32 [.p 0 0 0 0 none] [fbox f] = some (.tup [.sl 1 0 0 (slF 0 f.kind).length, .b (tagdF f.kind)], [fbox f, rowS (slF 0 f.kind) (cpF f.kind)]) := by
  have hk := kinds hk
  obtain ⟨a1, a2, a3, a4, a5, a6, a7, a8, a9⟩ := f
  simp only at hk
  rcases hk with e | e | e | e | e | e | e <;> subst e
  · exact V22_0 ..
  · exact V22_1 ..
  · exact V22_2 ..
  · exact V22_3 ..
  · exact V22_4 ..
  · exact V22_5 ..
  · exact V22_6 ..
set_option maxHeartbeats 4000000 in
theorem V22x (N d : Nat) (f : Fra) (hk : inB f.kind 0 6 = false) : sem tab N (d + 2) 32 [.p 0 0 0 0 none] [fbox f] = some (.tup [.e true, .b false], [fbox f]) := by
  rw [sem_succ tab N (d + 1) 32 m32 rfl]
  obtain ⟨a1, a2, a3, a4, a5, a6, a7, a8, a9⟩ := f
  simp only at hk
  have hh : ¬ (0 ≤ a1 ∧ a1 ≤ 6) := by
    intro h; simp [inB, h.1, h.2] at hk
  have e0 : (a1 == 0) = false := by simp; omega
  have e1 : (a1 == 1) = false := by simp; omega
  have e2 : (a1 == 2) = false := by simp; omega
  have e3 : (a1 == 3) = false := by simp; omega
  have e4 : (a1 == 4) = false := by simp; omega
  have e5 : (a1 == 5) = false := by simp; omega
  have e6 : (a1 == 6) = false := by simp; omega
  simp only [fbox, frC, box]
  generalize uL a9 = q at *
  simp -implicitDefEqProofs (maxSteps := 1000000) (disch := first | omega | rfl) [m32, e0, e1, e2, e3, e4, e5, e6, k_ncp, rg1, rg2, rg3, rg4, finG, reach, getOs, idx, one, box, boxO, KS, getS, getO, gS, zipN, dropW, takeW, wds, stvs, sea, seaL, refs, refsL, refsEls, refsO, isPureEls, isPures, isPure, noExt, noExts, noExtEls, cellsL, ren, renL, renEls, keepO, keepS, keysO, refsS, refsOB, cntN, headC, setS, boxO, row, putW, putB, putB1, eNl, newOs, frz, renO, noExtO, zps, zp, two32, w64, -getElem?_pos]
end
section
attribute [local congr] bnd_cg bndO_cg br_cg
theorem k_hdp (o v i f : Nat) (b : Option Nat) (r : List PV) : hd1 (some (.p o v i f b :: r)) = some (.p o v i f b) := rfl
theorem k_hdnp (r : List PV) : hd1 (some (.np :: r)) = some .np := rfl
theorem k_enp (neg : Bool) (o v i f : Nat) (b : Option Nat) : eNp neg (.p o v i f b) = some (.b neg) := rfl
theorem k_ennp (neg : Bool) : eNp neg .np = some (.b (!neg)) := rfl
def KF := And.intro @k_ncp (And.intro @k_hdp (And.intro @k_hdnp (And.intro @k_enp @k_ennp)))
theorem V35_0 (N d : Nat) (a2 a3 a4 a5 a6 a7 a8 : Int) (a9 : List Int) : sem tab (N + 6) (d + 3) 37 [.agg (frC ⟨0, a2, a3, a4, a5, a6, a7, a8, a9⟩)] [] = some (.agg (frC (bareF ⟨0, a2, a3, a4, a5, a6, a7, a8, a9⟩)), []) := by
  kernel_rfl
theorem V35_1 (N d : Nat) (a2 a3 a4 a5 a6 a7 a8 : Int) (a9 : List Int) : sem tab (N + 6) (d + 3) 37 [.agg (frC ⟨1, a2, a3, a4, a5, a6, a7, a8, a9⟩)] [] = some (.agg (frC (bareF ⟨1, a2, a3, a4, a5, a6, a7, a8, a9⟩)), []) := by
  kernel_rfl
theorem V35_2 (N d : Nat) (a2 a3 a4 a5 a6 a7 a8 : Int) (a9 : List Int) : sem tab (N + 6) (d + 3) 37 [.agg (frC ⟨2, a2, a3, a4, a5, a6, a7, a8, a9⟩)] [] = some (.agg (frC (bareF ⟨2, a2, a3, a4, a5, a6, a7, a8, a9⟩)), []) := by
  kernel_rfl
theorem V35_3 (N d : Nat) (a2 a3 a4 a5 a6 a7 a8 : Int) (a9 : List Int) : sem tab (N + 6) (d + 3) 37 [.agg (frC ⟨3, a2, a3, a4, a5, a6, a7, a8, a9⟩)] [] = some (.agg (frC (bareF ⟨3, a2, a3, a4, a5, a6, a7, a8, a9⟩)), []) := by
  kernel_rfl
theorem V35_4 (N d : Nat) (a2 a3 a4 a5 a6 a7 a8 : Int) (a9 : List Int) : sem tab (N + 6) (d + 3) 37 [.agg (frC ⟨4, a2, a3, a4, a5, a6, a7, a8, a9⟩)] [] = some (.agg (frC (bareF ⟨4, a2, a3, a4, a5, a6, a7, a8, a9⟩)), []) := by
  kernel_rfl
theorem V35_5 (N d : Nat) (a2 a3 a4 a5 a6 a7 a8 : Int) (a9 : List Int) : sem tab (N + 6) (d + 3) 37 [.agg (frC ⟨5, a2, a3, a4, a5, a6, a7, a8, a9⟩)] [] = some (.agg (frC (bareF ⟨5, a2, a3, a4, a5, a6, a7, a8, a9⟩)), []) := by
  kernel_rfl
theorem V35_6 (N d : Nat) (a2 a3 a4 a5 a6 a7 a8 : Int) (a9 : List Int) : sem tab (N + 6) (d + 3) 37 [.agg (frC ⟨6, a2, a3, a4, a5, a6, a7, a8, a9⟩)] [] = some (.agg (frC (bareF ⟨6, a2, a3, a4, a5, a6, a7, a8, a9⟩)), []) := by
  kernel_rfl
/-- A frame of its kind's fields alone. -/
theorem V35 (N d : Nat) (f : Fra) (hk : inB f.kind 0 6 = true) : sem tab (N + 6) (d + 3) 37 [.agg (frC f)] [] = some (.agg (frC (bareF f)), []) := by
  have hk := kinds hk
  obtain ⟨a1, a2, a3, a4, a5, a6, a7, a8, a9⟩ := f
  simp only at hk
  rcases hk with e | e | e | e | e | e | e <;> subst e
  · exact V35_0 ..
  · exact V35_1 ..
  · exact V35_2 ..
  · exact V35_3 ..
  · exact V35_4 ..
  · exact V35_5 ..
  · exact V35_6 ..
theorem V33p (N d : Nat) (a c : Int) : sem tab N (d + 1) 35 [.i .i64 a, .i .i64 c] [] = some (.b (inB a 0 c), []) := by
  rw [sem_succ tab N d 35 m35 rfl]
  by_cases h : 0 ≤ a <;> simp -implicitDefEqProofs (disch := first | omega | rfl) [m35, inB, h, KS, getS, getO, gS, zipN, dropW, takeW, wds, stvs, sea, seaL, refs, refsL, refsEls, refsO, isPureEls, isPures, isPure, noExt, noExts, noExtEls, cellsL, ren, renL, renEls, keepO, keepS, keysO, refsS, refsOB, headC, setS, boxO, row, putW, putB, putB1, eNl, newOs, frz, renO, noExtO, zps, zp, two32, w64, -getElem?_pos, k_cnt, k_cnt0]
theorem cav33 (N d : Nat) (ob : OB) (n : Nat) (a c : Int) : cav (sem tab N (d + 1)) ob n false (.fn 35 [] []) [.i .i64 a, .i .i64 c] = some (.b (inB a 0 c), []) := by
  have h := V33p N d a c
  have e : reifies ob [PV.i .i64 a, .i .i64 c] = some ([.i .i64 a, .i .i64 c], []) := by simp [reifies, reify, reify0]
  have r : reach ob 20 (refsL [PV.i .i64 a, .i .i64 c]) [] = some [] := by simp [refsL, refs, reach]
  simp only [cav, List.nil_append, List.append_nil]
  unfold ca
  simp only [hand, Bool.false_eq_true, if_false, e, r, h]
  simp [back0, ren]
theorem V34k (N d : Nat) (a : Int) : sem tab N (d + 1) 36 [.i .i64 a] [] = some (.b (inB a 0 6), []) := by
  rw [sem_succ tab N d 36 m36 rfl]
  have e : decide (a < 7) = decide (a ≤ 6) := by
    by_cases h : a ≤ 6
    · rw [decide_eq_true h, decide_eq_true (by omega)]
    · rw [decide_eq_false h, decide_eq_false (by omega)]
  by_cases h : 0 ≤ a <;> simp -implicitDefEqProofs (disch := first | omega | rfl) [m36, inB, h, e, KS, getS, getO, gS, zipN, dropW, takeW, wds, stvs, sea, seaL, refs, refsL, refsEls, refsO, isPureEls, isPures, isPure, noExt, noExts, noExtEls, cellsL, ren, renL, renEls, keepO, keepS, keysO, refsS, refsOB, headC, setS, boxO, row, putW, putB, putB1, eNl, newOs, frz, renO, noExtO, zps, zp, two32, w64, -getElem?_pos, k_cnt, k_cnt0]
theorem eqIs_uL : ∀ (xs ys : List Int), xs.length = ys.length → eqIs (uL xs) (uL ys) = some (decide (xs = ys))
  | [], [], _ => by simp [uL, eqIs]
  | [], _ :: _, h => by simp at h
  | _ :: _, [], h => by simp at h
  | x :: r, y :: s, h => by
    have := eqIs_uL r s (by simpa using h)
    simp only [uL] at this
    simp only [uL, List.map_cons, eqIs, eqI, if_pos rfl, this, Option.some.injEq]
    by_cases e : x = y
    · subst e; simp
    · simp [e]
theorem eSt_fr (f g : Fra) (hf : f.tag.length = 32) (hg : g.tag.length = 32) : eSt false [.i, .i, .i, .i, .i, .i, .i, .i, .a 32] (.agg (frC f)) (.agg (frC g)) = some (.b (eqFr f g)) := by
  have h := eqIs_uL f.tag g.tag (by rw [hf, hg])
  simp only [eSt, frC, eqSh, eqS1, if_pos rfl, andRR, andR, and_self, h, notR, eqFr]
  simp
theorem bareF_tag (f : Fra) (h : f.tag.length = 32) : (bareF f).tag.length = 32 := by
  unfold bareF
  repeat' split
  all_goals first | exact z32_len | exact h
set_option maxHeartbeats 8000000 in
/-- Which frames are plain. -/
theorem V19 (N d : Nat) (f : Fra) (ht : f.tag.length = 32) : sem tab (N + 6) (d + 4) 20 [.agg (frC f)] [] = some (.b (plainF f), []) := by
  rw [sem_succ tab (N + 6) (d + 3) 20 m20 rfl]
  have h34 := V34k (N + 6) (d + 2) f.kind
  have hc := cav33 (N + 6) (d + 2)
  have h35 := fun hk => V35 N d f hk
  have he := eSt_fr (bareF f) f (bareF_tag f ht) ht
  obtain ⟨a1, a2, a3, a4, a5, a6, a7, a8, a9⟩ := f
  simp only [plainF] at *
  generalize bareF ⟨a1, a2, a3, a4, a5, a6, a7, a8, a9⟩ = w at *
  obtain ⟨b1, b2, b3, b4, b5, b6, b7, b8, b9⟩ := w
  simp only [frC] at *
  generalize uL b9 = p at *
  generalize uL a9 = q at *
  generalize eqFr ⟨b1, b2, b3, b4, b5, b6, b7, b8, b9⟩ ⟨a1, a2, a3, a4, a5, a6, a7, a8, a9⟩ = z at *
  cases c0 : inB a1 0 6
  · simp -implicitDefEqProofs (maxSteps := 1000000) (disch := first | omega | rfl) [m20, h34, hc, c0, boxO, KF, KS, getS, getO, gS, zipN, dropW, takeW, wds, stvs, sea, seaL, refs, refsL, refsEls, refsO, isPureEls, isPures, isPure, noExt, noExts, noExtEls, cellsL, ren, renL, renEls, keepO, keepS, keysO, refsS, refsOB, headC, setS, boxO, row, putW, putB, putB1, eNl, newOs, frz, renO, noExtO, zps, zp, two32, w64, -getElem?_pos, k_cnt, k_cnt0]
  have h35 := h35 c0
  cases c1 : inB a2 0 255
  · simp -implicitDefEqProofs (maxSteps := 1000000) (disch := first | omega | rfl) [m20, h34, hc, c0, c1, boxO, KF, KS, getS, getO, gS, zipN, dropW, takeW, wds, stvs, sea, seaL, refs, refsL, refsEls, refsO, isPureEls, isPures, isPure, noExt, noExts, noExtEls, cellsL, ren, renL, renEls, keepO, keepS, keysO, refsS, refsOB, headC, setS, boxO, row, putW, putB, putB1, eNl, newOs, frz, renO, noExtO, zps, zp, two32, w64, -getElem?_pos, k_cnt, k_cnt0]
  cases c2 : inB a5 0 1073741824
  · simp -implicitDefEqProofs (maxSteps := 1000000) (disch := first | omega | rfl) [m20, h34, hc, c0, c1, c2, boxO, KF, KS, getS, getO, gS, zipN, dropW, takeW, wds, stvs, sea, seaL, refs, refsL, refsEls, refsO, isPureEls, isPures, isPure, noExt, noExts, noExtEls, cellsL, ren, renL, renEls, keepO, keepS, keysO, refsS, refsOB, headC, setS, boxO, row, putW, putB, putB1, eNl, newOs, frz, renO, noExtO, zps, zp, two32, w64, -getElem?_pos, k_cnt, k_cnt0]
  cases c3 : inB a7 0 255
  · simp -implicitDefEqProofs (maxSteps := 1000000) (disch := first | omega | rfl) [m20, h34, hc, c0, c1, c2, c3, boxO, KF, KS, getS, getO, gS, zipN, dropW, takeW, wds, stvs, sea, seaL, refs, refsL, refsEls, refsO, isPureEls, isPures, isPure, noExt, noExts, noExtEls, cellsL, ren, renL, renEls, keepO, keepS, keysO, refsS, refsOB, headC, setS, boxO, row, putW, putB, putB1, eNl, newOs, frz, renO, noExtO, zps, zp, two32, w64, -getElem?_pos, k_cnt, k_cnt0]
  cases c4 : inB a8 0 65535
  · simp -implicitDefEqProofs (maxSteps := 1000000) (disch := first | omega | rfl) [m20, h34, hc, c0, c1, c2, c3, c4, boxO, KF, KS, getS, getO, gS, zipN, dropW, takeW, wds, stvs, sea, seaL, refs, refsL, refsEls, refsO, isPureEls, isPures, isPure, noExt, noExts, noExtEls, cellsL, ren, renL, renEls, keepO, keepS, keysO, refsS, refsOB, headC, setS, boxO, row, putW, putB, putB1, eNl, newOs, frz, renO, noExtO, zps, zp, two32, w64, -getElem?_pos, k_cnt, k_cnt0]
  · simp -implicitDefEqProofs (maxSteps := 1000000) (disch := first | omega | rfl) [m20, h34, hc, c0, c1, c2, c3, c4, h35, he, boxO, KF, KS, getS, getO, gS, zipN, dropW, takeW, wds, stvs, sea, seaL, refs, refsL, refsEls, refsO, isPureEls, isPures, isPure, noExt, noExts, noExtEls, cellsL, ren, renL, renEls, keepO, keepS, keysO, refsS, refsOB, headC, setS, boxO, row, putW, putB, putB1, eNl, newOs, frz, renO, noExtO, zps, zp, two32, w64, -getElem?_pos, k_cnt, k_cnt0]
end
section
attribute [local congr] bnd_cg bndO_cg br_cg
theorem k_ca22 (Φ : Sem') (ob : OB) (d o k : Nat) (f : Fra) (t : Bool) (hk : inB f.kind 0 6 = true) (h0 : getO ob o = some (fbox f)) (h1 : getO ob d = none)
    (H : Φ k [.p 0 0 0 0 none] [fbox f] = some (.tup [.sl 1 0 0 (slF 0 f.kind).length, .b t], [fbox f, rowS (slF 0 f.kind) (cpF f.kind)])) :
    ca Φ ob d false k [.p o 0 0 0 none] = some (.tup [.sl d 0 0 (slF 0 f.kind).length, .b t], [(d, rowS (slF o f.kind) (cpF f.kind)), (o, fbox f)]) := by
  have hk := kinds hk
  obtain ⟨a1, a2, a3, a4, a5, a6, a7, a8, a9⟩ := f
  simp only at hk
  rcases hk with e | e | e | e | e | e | e <;> subst e <;> simp only [fbox, frC, rowS, sU, sN, box, slF, cpF] at h0 H ⊢ <;>
  simp [ca, hand, reifies, reify, reifyL, reify0, refs, refsL, refsEls, refsO, reach, h0, h1, getOs, idx, renL, ren, renEls, renO, H, back, putOs, newOs, nth, noExt, noExts]
theorem k_ca22x (Φ : Sem') (ob : OB) (d o k : Nat) (f : Fra) (h0 : getO ob o = some (fbox f))
    (H : Φ k [.p 0 0 0 0 none] [fbox f] = some (.tup [.e true, .b false], [fbox f])) :
    ca Φ ob d false k [.p o 0 0 0 none] = some (.tup [.e true, .b false], [(o, fbox f)]) := by
  obtain ⟨a1, a2, a3, a4, a5, a6, a7, a8, a9⟩ := f
  simp only [fbox, frC, box] at h0 H ⊢
  simp [ca, hand, reifies, reify, reifyL, reify0, refs, refsL, refsEls, refsO, reach, h0, getOs, idx, renL, ren, renEls, renO, H, back, putOs, newOs, nth, noExt, noExts]
theorem wu64 {n : Int} (h0 : 0 ≤ n) (h1 : n < 18446744073709551616) : IntKind.u64.wrap n = n := by rw [IntKind.wrap_u64]; omega
theorem uz32 : uL z32 = List.replicate 32 (.i .u8 0) := rfl
def sl20f (t : Bool) (sz : Int) (n : Nat) : SL := [(5, .b t), (6, .i .i64 sz), (7, .sl 240 n 0 (n + 2)), (23, .sl 176 0 0 n), (24, .i .i64 n), (25, .i .i64 n)]
def ob20f (k : Int) (f : Fra) (n : Nat) (l : List (List PV)) : OB := [(72, fbox f), (176, rowS (slF 72 k) (cpF k)), (240, { els := [.i .u64 0, .i .i64 0] :: [.i .u64 (IntKind.u64.wrap k), .i .i64 1] :: l, w := 2, pu := true, g := true, cap := none, ver := n, fro := false })]
theorem T20_0 (N d : Nat) (a2 a3 a4 a5 a6 a7 a8 : Int) (a9 : List Int) : m21 (sem tab (N + 100) (d + 3)) (N + 100) [.agg (frC ⟨0, a2, a3, a4, a5, a6, a7, a8, a9⟩)] [] = m21b0 (sem tab (N + 100) (d + 3)) (N + 100) [] (loopC (m21b0 (sem tab (N + 100) (d + 3)) (N + 100) []) (N + 97)) (sl20f false 10 2) (ob20f 0 ⟨0, a2, a3, a4, a5, a6, a7, a8, a9⟩ 2 [[.i .u64 (IntKind.u64.wrap a2), .i .i64 1], [.i .u64 a4, .i .i64 8]]) := by
  kernel_rfl
theorem T20_1 (N d : Nat) (a2 a3 a4 a5 a6 a7 a8 : Int) (a9 : List Int) : m21 (sem tab (N + 100) (d + 3)) (N + 100) [.agg (frC ⟨1, a2, a3, a4, a5, a6, a7, a8, a9⟩)] [] = m21b0 (sem tab (N + 100) (d + 3)) (N + 100) [] (loopC (m21b0 (sem tab (N + 100) (d + 3)) (N + 100) []) (N + 97)) (sl20f false 13 2) (ob20f 1 ⟨1, a2, a3, a4, a5, a6, a7, a8, a9⟩ 2 [[.i .u64 a3, .i .i64 8], [.i .u64 (IntKind.u64.wrap a5), .i .i64 4]]) := by
  kernel_rfl
theorem T20_2 (N d : Nat) (a2 a3 a4 a5 a6 a7 a8 : Int) (a9 : List Int) : m21 (sem tab (N + 100) (d + 3)) (N + 100) [.agg (frC ⟨2, a2, a3, a4, a5, a6, a7, a8, a9⟩)] [] = m21b0 (sem tab (N + 100) (d + 3)) (N + 100) [] (loopC (m21b0 (sem tab (N + 100) (d + 3)) (N + 100) []) (N + 98)) (sl20f true 9 1) (ob20f 2 ⟨2, a2, a3, a4, a5, a6, a7, a8, a9⟩ 1 [[.i .u64 a3, .i .i64 8]]) := by
  kernel_rfl
theorem T20_3 (N d : Nat) (a2 a3 a4 a5 a6 a7 a8 : Int) (a9 : List Int) : m21 (sem tab (N + 100) (d + 3)) (N + 100) [.agg (frC ⟨3, a2, a3, a4, a5, a6, a7, a8, a9⟩)] [] = m21b0 (sem tab (N + 100) (d + 3)) (N + 100) [] (loopC (m21b0 (sem tab (N + 100) (d + 3)) (N + 100) []) (N + 98)) (sl20f true 9 1) (ob20f 3 ⟨3, a2, a3, a4, a5, a6, a7, a8, a9⟩ 1 [[.i .u64 a3, .i .i64 8]]) := by
  kernel_rfl
theorem T20_4 (N d : Nat) (a2 a3 a4 a5 a6 a7 a8 : Int) (a9 : List Int) : m21 (sem tab (N + 100) (d + 3)) (N + 100) [.agg (frC ⟨4, a2, a3, a4, a5, a6, a7, a8, a9⟩)] [] = m21b0 (sem tab (N + 100) (d + 3)) (N + 100) [] (loopC (m21b0 (sem tab (N + 100) (d + 3)) (N + 100) []) (N + 95)) (sl20f true 20 4) (ob20f 4 ⟨4, a2, a3, a4, a5, a6, a7, a8, a9⟩ 4 [[.i .u64 a3, .i .i64 8], [.i .u64 a6, .i .i64 8], [.i .u64 (IntKind.u64.wrap a7), .i .i64 1], [.i .u64 (IntKind.u64.wrap a8), .i .i64 2]]) := by
  kernel_rfl
theorem T20_5 (N d : Nat) (a2 a3 a4 a5 a6 a7 a8 : Int) (a9 : List Int) : m21 (sem tab (N + 100) (d + 3)) (N + 100) [.agg (frC ⟨5, a2, a3, a4, a5, a6, a7, a8, a9⟩)] [] = m21b0 (sem tab (N + 100) (d + 3)) (N + 100) [] (loopC (m21b0 (sem tab (N + 100) (d + 3)) (N + 100) []) (N + 95)) (sl20f true 20 4) (ob20f 5 ⟨5, a2, a3, a4, a5, a6, a7, a8, a9⟩ 4 [[.i .u64 a3, .i .i64 8], [.i .u64 a6, .i .i64 8], [.i .u64 (IntKind.u64.wrap a7), .i .i64 1], [.i .u64 (IntKind.u64.wrap a8), .i .i64 2]]) := by
  kernel_rfl
theorem T20_6 (N d : Nat) (a2 a3 a4 a5 a6 a7 a8 : Int) (a9 : List Int) : m21 (sem tab (N + 100) (d + 3)) (N + 100) [.agg (frC ⟨6, a2, a3, a4, a5, a6, a7, a8, a9⟩)] [] = m21b0 (sem tab (N + 100) (d + 3)) (N + 100) [] (loopC (m21b0 (sem tab (N + 100) (d + 3)) (N + 100) []) (N + 98)) (sl20f false 2 1) (ob20f 6 ⟨6, a2, a3, a4, a5, a6, a7, a8, a9⟩ 1 [[.i .u64 (IntKind.u64.wrap a7), .i .i64 1]]) := by
  kernel_rfl
set_option maxHeartbeats 16000000 in
/-- The bytes ahead of the tag, and whether there is one. -/
theorem V20 (N d : Nat) (f : Fra) (h : PlF f) (o : okF f) : sem tab (N + 100) (d + 4) 21 [.agg (frC f)] [] = some (.tup [.sl 0 0 0 (aheadF f.kind), .b (tagdF f.kind)], [row (byL (frontF f)) 1 true]) := by
  rw [sem_succ tab (N + 100) (d + 3) 21 m21 rfl]
  have h36 := U39c N d (allF f) (by have := numsF_len f; simp only [allF, List.length_cons]; omega) (okNu_allF f h o)
  rw [fitAll_allF f h o, cond_true, show catB (allF f) = frontF f from rfl, frontF_len] at h36
  have hl := byL_len (frontF f)
  rw [frontF_len] at hl
  have ht : List.take (aheadF f.kind) (byL (frontF f)) = byL (frontF f) := List.take_of_length_le (by omega)
  have hk := kinds h.kind
  obtain ⟨_, p2, p3, p4, p5, _⟩ := h
  have u2 := wu64 p2.1 (by omega)
  have u3 := wu64 p3.1 (by omega)
  have u4 := wu64 p4.1 (by omega)
  have u5 := wu64 p5.1 (by omega)
  have v0 : IntKind.u64.wrap 0 = 0 := by decide
  have v1 : IntKind.u64.wrap 1 = 1 := by decide
  have v2 : IntKind.u64.wrap 2 = 2 := by decide
  have v3 : IntKind.u64.wrap 3 = 3 := by decide
  have v4 : IntKind.u64.wrap 4 = 4 := by decide
  have v5 : IntKind.u64.wrap 5 = 5 := by decide
  have v6 : IntKind.u64.wrap 6 = 6 := by decide
  have x1 : IntKind.u64.wrap 10 = 10 := by decide
  have x2 : IntKind.u64.wrap 13 = 13 := by decide
  have x3 : IntKind.u64.wrap 41 = 41 := by decide
  have x4 : IntKind.u64.wrap 52 = 52 := by decide
  generalize byL (frontF f) = b at *
  clear p2 p3 p4 p5 o
  obtain ⟨a1, a2, a3, a4, a5, a6, a7, a8, a9⟩ := f
  simp only at *
  rcases hk with e | e | e | e | e | e | e <;> subst e
  · rw [T20_0]
    simp only [sl20f, ob20f, fbox, frC, rowS, sU, sN, box, slF, cpF, tagdF, inB, nuL, allF, numsF, szF, aheadF, row] at h36 hl ht ⊢
    generalize uL a9 = q at *
    generalize loopC (m21b0 (sem tab (N + 100) (d + 3)) (N + 100) []) _ = g
    simp at h36 hl ht
    simp -implicitDefEqProofs (maxSteps := 1000000) (disch := first | omega | rfl) [m21b0, u2, u3, u4, u5, v0, v1, v2, v3, v4, v5, v6, x1, x2, x3, x4, hl, ht, h36, boxO, fin, resOs, refsOuts, refsX, outOs, outX, resO, one, KF, KS, getS, getO, gS, zipN, dropW, takeW, wds, stvs, sea, seaL, refs, refsL, refsEls, refsO, isPureEls, isPures, isPure, noExt, noExts, noExtEls, cellsL, ren, renL, renEls, keepO, keepS, keysO, refsS, refsOB, headC, setS, boxO, row, putW, putB, putB1, eNl, newOs, frz, renO, noExtO, zps, zp, two32, w64, -getElem?_pos, k_cnt, k_cnt0]
  · rw [T20_1]
    simp only [sl20f, ob20f, fbox, frC, rowS, sU, sN, box, slF, cpF, tagdF, inB, nuL, allF, numsF, szF, aheadF, row] at h36 hl ht ⊢
    generalize uL a9 = q at *
    generalize loopC (m21b0 (sem tab (N + 100) (d + 3)) (N + 100) []) _ = g
    simp at h36 hl ht
    simp -implicitDefEqProofs (maxSteps := 1000000) (disch := first | omega | rfl) [m21b0, u2, u3, u4, u5, v0, v1, v2, v3, v4, v5, v6, x1, x2, x3, x4, hl, ht, h36, boxO, fin, resOs, refsOuts, refsX, outOs, outX, resO, one, KF, KS, getS, getO, gS, zipN, dropW, takeW, wds, stvs, sea, seaL, refs, refsL, refsEls, refsO, isPureEls, isPures, isPure, noExt, noExts, noExtEls, cellsL, ren, renL, renEls, keepO, keepS, keysO, refsS, refsOB, headC, setS, boxO, row, putW, putB, putB1, eNl, newOs, frz, renO, noExtO, zps, zp, two32, w64, -getElem?_pos, k_cnt, k_cnt0]
  · rw [T20_2]
    simp only [sl20f, ob20f, fbox, frC, rowS, sU, sN, box, slF, cpF, tagdF, inB, nuL, allF, numsF, szF, aheadF, row] at h36 hl ht ⊢
    generalize uL a9 = q at *
    generalize loopC (m21b0 (sem tab (N + 100) (d + 3)) (N + 100) []) _ = g
    simp at h36 hl ht
    simp -implicitDefEqProofs (maxSteps := 1000000) (disch := first | omega | rfl) [m21b0, u2, u3, u4, u5, v0, v1, v2, v3, v4, v5, v6, x1, x2, x3, x4, hl, ht, h36, boxO, fin, resOs, refsOuts, refsX, outOs, outX, resO, one, KF, KS, getS, getO, gS, zipN, dropW, takeW, wds, stvs, sea, seaL, refs, refsL, refsEls, refsO, isPureEls, isPures, isPure, noExt, noExts, noExtEls, cellsL, ren, renL, renEls, keepO, keepS, keysO, refsS, refsOB, headC, setS, boxO, row, putW, putB, putB1, eNl, newOs, frz, renO, noExtO, zps, zp, two32, w64, -getElem?_pos, k_cnt, k_cnt0]
  · rw [T20_3]
    simp only [sl20f, ob20f, fbox, frC, rowS, sU, sN, box, slF, cpF, tagdF, inB, nuL, allF, numsF, szF, aheadF, row] at h36 hl ht ⊢
    generalize uL a9 = q at *
    generalize loopC (m21b0 (sem tab (N + 100) (d + 3)) (N + 100) []) _ = g
    simp at h36 hl ht
    simp -implicitDefEqProofs (maxSteps := 1000000) (disch := first | omega | rfl) [m21b0, u2, u3, u4, u5, v0, v1, v2, v3, v4, v5, v6, x1, x2, x3, x4, hl, ht, h36, boxO, fin, resOs, refsOuts, refsX, outOs, outX, resO, one, KF, KS, getS, getO, gS, zipN, dropW, takeW, wds, stvs, sea, seaL, refs, refsL, refsEls, refsO, isPureEls, isPures, isPure, noExt, noExts, noExtEls, cellsL, ren, renL, renEls, keepO, keepS, keysO, refsS, refsOB, headC, setS, boxO, row, putW, putB, putB1, eNl, newOs, frz, renO, noExtO, zps, zp, two32, w64, -getElem?_pos, k_cnt, k_cnt0]
  · rw [T20_4]
    simp only [sl20f, ob20f, fbox, frC, rowS, sU, sN, box, slF, cpF, tagdF, inB, nuL, allF, numsF, szF, aheadF, row] at h36 hl ht ⊢
    generalize uL a9 = q at *
    generalize loopC (m21b0 (sem tab (N + 100) (d + 3)) (N + 100) []) _ = g
    simp at h36 hl ht
    simp -implicitDefEqProofs (maxSteps := 1000000) (disch := first | omega | rfl) [m21b0, u2, u3, u4, u5, v0, v1, v2, v3, v4, v5, v6, x1, x2, x3, x4, hl, ht, h36, boxO, fin, resOs, refsOuts, refsX, outOs, outX, resO, one, KF, KS, getS, getO, gS, zipN, dropW, takeW, wds, stvs, sea, seaL, refs, refsL, refsEls, refsO, isPureEls, isPures, isPure, noExt, noExts, noExtEls, cellsL, ren, renL, renEls, keepO, keepS, keysO, refsS, refsOB, headC, setS, boxO, row, putW, putB, putB1, eNl, newOs, frz, renO, noExtO, zps, zp, two32, w64, -getElem?_pos, k_cnt, k_cnt0]
  · rw [T20_5]
    simp only [sl20f, ob20f, fbox, frC, rowS, sU, sN, box, slF, cpF, tagdF, inB, nuL, allF, numsF, szF, aheadF, row] at h36 hl ht ⊢
    generalize uL a9 = q at *
    generalize loopC (m21b0 (sem tab (N + 100) (d + 3)) (N + 100) []) _ = g
    simp at h36 hl ht
    simp -implicitDefEqProofs (maxSteps := 1000000) (disch := first | omega | rfl) [m21b0, u2, u3, u4, u5, v0, v1, v2, v3, v4, v5, v6, x1, x2, x3, x4, hl, ht, h36, boxO, fin, resOs, refsOuts, refsX, outOs, outX, resO, one, KF, KS, getS, getO, gS, zipN, dropW, takeW, wds, stvs, sea, seaL, refs, refsL, refsEls, refsO, isPureEls, isPures, isPure, noExt, noExts, noExtEls, cellsL, ren, renL, renEls, keepO, keepS, keysO, refsS, refsOB, headC, setS, boxO, row, putW, putB, putB1, eNl, newOs, frz, renO, noExtO, zps, zp, two32, w64, -getElem?_pos, k_cnt, k_cnt0]
  · rw [T20_6]
    simp only [sl20f, ob20f, fbox, frC, rowS, sU, sN, box, slF, cpF, tagdF, inB, nuL, allF, numsF, szF, aheadF, row] at h36 hl ht ⊢
    generalize uL a9 = q at *
    generalize loopC (m21b0 (sem tab (N + 100) (d + 3)) (N + 100) []) _ = g
    simp at h36 hl ht
    simp -implicitDefEqProofs (maxSteps := 1000000) (disch := first | omega | rfl) [m21b0, u2, u3, u4, u5, v0, v1, v2, v3, v4, v5, v6, x1, x2, x3, x4, hl, ht, h36, boxO, fin, resOs, refsOuts, refsX, outOs, outX, resO, one, KF, KS, getS, getO, gS, zipN, dropW, takeW, wds, stvs, sea, seaL, refs, refsL, refsEls, refsO, isPureEls, isPures, isPure, noExt, noExts, noExtEls, cellsL, ren, renL, renEls, keepO, keepS, keysO, refsS, refsOB, headC, setS, boxO, row, putW, putB, putB1, eNl, newOs, frz, renO, noExtO, zps, zp, two32, w64, -getElem?_pos, k_cnt, k_cnt0]
end
section
attribute [local congr] bnd_cg bndO_cg br_cg
section
variable (ob : OB) (o i n v : Nat)
theorem k_slcAl : slc ob (.arr n) (.p o 0 0 i none) none none none = slB o i 0 n (some 0) (some n) := rfl
theorem k_slBl : slB o i 0 32 (some 0) (some 32) = some (.bs o i 0 32, []) := by simp [slB]
theorem k_cont_bsf (m : Nat) : cont ob (.bs o v i m) = contB (blobAt (atO (getO ob o) 0 0 v)) i m := rfl
theorem k_contBs (xs : List PV) : contB (some xs) o n = if o + n ≤ xs.length then some (true, ((xs.drop o).take n).map fun v => [v]) else none := rfl
theorem k_blobAts (xs r : List PV) : blobAt (some (.blob n xs :: r)) = some xs := rfl
def KVl := And.intro @k_slcAl (And.intro @k_slBl (And.intro @k_cont_bsf (And.intro @k_contBs @k_blobAts)))
end
theorem take_uf (h : List Int) (hl : h.length = 32) : ((uL h).drop 0).take 32 = uL h := by
  rw [List.drop_zero]; exact List.take_of_length_le (by simp [uL, hl])
theorem map_uf (h : List Int) : (uL h).map (fun v => [v]) = byL h := by simp [uL, byL]
theorem aheadF_le (k : Int) : 4 ≤ aheadF k ∧ aheadF k ≤ 22 := by
  unfold aheadF
  repeat' split
  all_goals omega
set_option maxHeartbeats 8000000 in
/-- A frame's bytes. -/
theorem V10 (N d : Nat) (f : Fra) (o : okF f) : sem tab (N + 100) (d + 5) 17 [.agg (frC f)] [] = cond (plainF f) (some (.tup [.sl 0 0 0 (putF f).length, .b true], [row (byL (putF f)) 1 true])) (some (.tup [.sl 0 0 0 0, .b false], [row [] 1 true])) := by
  rw [sem_succ tab (N + 100) (d + 4) 17 m17 rfl]
  have h19 := V19 (N + 94) d f o.tag
  rw [show N + 94 + 6 = N + 100 by omega] at h19
  cases hp : plainF f
  · rw [hp] at h19
    obtain ⟨a1, a2, a3, a4, a5, a6, a7, a8, a9⟩ := f
    simp only [frC, cond_false, row] at h19 ⊢
    generalize uL a9 = q at *
    simp -implicitDefEqProofs (maxSteps := 1000000) (disch := first | omega | rfl) [m17, h19, boxO, KF, KS, getS, getO, gS, zipN, dropW, takeW, wds, stvs, sea, seaL, refs, refsL, refsEls, refsO, isPureEls, isPures, isPure, noExt, noExts, noExtEls, cellsL, ren, renL, renEls, keepO, keepS, keysO, refsS, refsOB, headC, setS, boxO, row, putW, putB, putB1, eNl, newOs, frz, renO, noExtO, zps, zp, two32, w64, -getElem?_pos, k_cnt, k_cnt0]
  · rw [hp] at h19
    have h20 := V20 N d f ((plainF_iff f).1 hp) o
    have hl := byL_len (frontF f)
    rw [frontF_len] at hl
    have hpl : (putF f).length = (frontF f).length + (cond (tagdF f.kind) f.tag []).length := by simp [putF]
    have hpb : byL (putF f) = byL (frontF f) ++ byL (cond (tagdF f.kind) f.tag []) := by simp [putF, byL]
    rw [frontF_len] at hpl
    have ha := aheadF_le f.kind
    have tu := take_uf f.tag o.tag
    have tu0 : (uL f.tag).take 32 = uL f.tag := by rw [← List.drop_zero (l := uL f.tag)]; exact tu
    have mu := map_uf f.tag
    have tl := byL_len f.tag
    have ul := uL_len f.tag
    rw [o.tag] at tl ul
    have hot := o.tag
    cases ht : tagdF f.kind
    · rw [ht] at h20 hpl hpb
      simp only [cond_false, cond_true, List.length_nil, Nat.add_zero, byL, List.map_nil, List.append_nil] at hpl hpb ⊢
      simp only [byL] at h20 hl
      rw [hpl, hpb]
      have t1 : List.take (aheadF f.kind) (List.map (fun n => [PV.i .u8 n]) (frontF f)) = List.map (fun n => [PV.i .u8 n]) (frontF f) := List.take_of_length_le (by omega)
      generalize List.map (fun n => [PV.i .u8 n]) (frontF f) = b at *
      generalize aheadF f.kind = n at *
      obtain ⟨a1, a2, a3, a4, a5, a6, a7, a8, a9⟩ := f
      simp only [frC, row] at h19 h20 ⊢
      generalize uL a9 = q at *
      simp -implicitDefEqProofs (maxSteps := 1000000) (disch := first | omega | rfl) [m17, h19, h20, hl, t1, boxO, KF, KS, getS, getO, gS, zipN, dropW, takeW, wds, stvs, sea, seaL, refs, refsL, refsEls, refsO, isPureEls, isPures, isPure, noExt, noExts, noExtEls, cellsL, ren, renL, renEls, keepO, keepS, keysO, refsS, refsOB, headC, setS, boxO, row, putW, putB, putB1, eNl, newOs, frz, renO, noExtO, zps, zp, two32, w64, -getElem?_pos, k_cnt, k_cnt0]
    · rw [ht] at h20 hpl hpb
      simp only [cond_false, cond_true, hot] at hpl hpb ⊢
      rw [hpl, hpb]
      have t1 : List.take (aheadF f.kind) (byL (frontF f)) = byL (frontF f) := List.take_of_length_le (by omega)
      have t2 : List.take (aheadF f.kind + 32) (byL (frontF f) ++ byL f.tag) = byL (frontF f) ++ byL f.tag := List.take_of_length_le (by simp [hl, tl])
      have g1 : ¬ (aheadF f.kind + 32 ≤ aheadF f.kind) := by omega
      have g2 : aheadF f.kind + 32 ≤ 4294967296 := by omega
      have wt := allW_by f.tag
      have ft := flat_by f.tag
      generalize byL (frontF f) = b at *
      generalize byL f.tag = c at *
      generalize aheadF f.kind = n at *
      clear hot
      obtain ⟨a1, a2, a3, a4, a5, a6, a7, a8, a9⟩ := f
      simp only [frC, row] at *
      generalize uL a9 = q at *
      simp -implicitDefEqProofs (maxSteps := 1000000) (disch := first | omega | rfl) [m17, h19, h20, hl, tl, ul, tu, tu0, mu, t1, t2, g1, g2, wt, ft, boxO, KVl, KF, KS, getS, getO, gS, zipN, dropW, takeW, wds, stvs, sea, seaL, refs, refsL, refsEls, refsO, isPureEls, isPures, isPure, noExt, noExts, noExtEls, cellsL, ren, renL, renEls, keepO, keepS, keysO, refsS, refsOB, headC, setS, boxO, row, putW, putB, putB1, eNl, newOs, frz, renO, noExtO, zps, zp, two32, w64, -getElem?_pos, k_cnt, k_cnt0]
set_option maxHeartbeats 8000000 in
/-- The bytes that its tag is of. -/
theorem V17 (N d : Nat) (f : Fra) (o : okF f) : sem tab (N + 100) (d + 5) 10 [.agg (frC f)] [] = cond (plainF f && tagdF f.kind) (some (.sl 0 0 0 (aheadF f.kind), [row (byL (frontF f)) 1 true])) (some (.sl 0 0 0 0, [row [] 1 true])) := by
  rw [sem_succ tab (N + 100) (d + 4) 10 m10 rfl]
  have h19 := V19 (N + 94) d f o.tag
  rw [show N + 94 + 6 = N + 100 by omega] at h19
  cases hp : plainF f
  · rw [hp] at h19
    obtain ⟨a1, a2, a3, a4, a5, a6, a7, a8, a9⟩ := f
    simp only [frC, cond_false, Bool.false_and, row] at h19 ⊢
    generalize uL a9 = q at *
    simp -implicitDefEqProofs (maxSteps := 1000000) (disch := first | omega | rfl) [m10, h19, boxO, KF, KS, getS, getO, gS, zipN, dropW, takeW, wds, stvs, sea, seaL, refs, refsL, refsEls, refsO, isPureEls, isPures, isPure, noExt, noExts, noExtEls, cellsL, ren, renL, renEls, keepO, keepS, keysO, refsS, refsOB, headC, setS, boxO, row, putW, putB, putB1, eNl, newOs, frz, renO, noExtO, zps, zp, two32, w64, -getElem?_pos, k_cnt, k_cnt0]
  · rw [hp] at h19
    have h20 := V20 N d f ((plainF_iff f).1 hp) o
    have hl := byL_len (frontF f)
    rw [frontF_len] at hl
    have t1 : List.take (aheadF f.kind) (byL (frontF f)) = byL (frontF f) := List.take_of_length_le (by omega)
    generalize byL (frontF f) = b at *
    generalize aheadF f.kind = n at *
    generalize tagdF f.kind = t at *
    obtain ⟨a1, a2, a3, a4, a5, a6, a7, a8, a9⟩ := f
    simp only [frC, row, Bool.true_and] at *
    generalize uL a9 = q at *
    cases t <;>
    simp -implicitDefEqProofs (maxSteps := 1000000) (disch := first | omega | rfl) [m10, h19, h20, hl, t1, boxO, KF, KS, getS, getO, gS, zipN, dropW, takeW, wds, stvs, sea, seaL, refs, refsL, refsEls, refsO, isPureEls, isPures, isPure, noExt, noExts, noExtEls, cellsL, ren, renL, renEls, keepO, keepS, keysO, refsS, refsOB, headC, setS, boxO, row, putW, putB, putB1, eNl, newOs, frz, renO, noExtO, zps, zp, two32, w64, -getElem?_pos, k_cnt, k_cnt0]
end
section
attribute [local congr] bnd_cg bndO_cg br_cg
theorem V23x (N d : Nat) (q : Bool) (bs : List Int) (at' k : Nat) (hk : 1 ≤ k ∧ k ≤ 8) (hb : bs.length < 1000000) (ha : at' ≤ 1000) (hf : bs.length < at' + k) :
    sem tab (N + 100) (d + 2) 33 [.l q (byL bs), .i .i64 at', .i .i64 k] [] = some (.tup [.i .u64 0, .i .i64 (-1)], []) := by
  rw [sem_succ tab (N + 100) (d + 1) 33 m33 rfl]
  have h146 := U146 (N + 100) d k
  have b1 : inB k 1 8 = true := by simp only [inB, Bool.and_eq_true, decide_eq_true_eq]; omega
  rw [b1] at h146
  have hl := byL_len bs
  have c0 : ¬ ((at' : Int) < 0) := by omega
  have w1 : IntKind.i64.wrap ((bs.length : Int) - at') = (bs.length : Int) - at' := by rw [IntKind.wrap_i64]; omega
  rw [← hl] at hf w1
  generalize byL bs = b at *
  by_cases c1 : (at' : Int) > b.length
  · simp -implicitDefEqProofs (maxSteps := 1000000) (disch := first | omega | rfl) [m33, h146, c0, c1, KF, KS, getS, getO, gS, zipN, dropW, takeW, wds, stvs, sea, seaL, refs, refsL, refsEls, refsO, isPureEls, isPures, isPure, noExt, noExts, noExtEls, cellsL, ren, renL, renEls, keepO, keepS, keysO, refsS, refsOB, headC, setS, boxO, row, putW, putB, putB1, eNl, newOs, frz, renO, noExtO, zps, zp, two32, w64, -getElem?_pos, k_cnt, k_cnt0]
  · have c2 : (b.length : Int) - at' < k := by omega
    simp -implicitDefEqProofs (maxSteps := 1000000) (disch := first | omega | rfl) [m33, h146, c0, c1, c2, w1, KF, KS, getS, getO, gS, zipN, dropW, takeW, wds, stvs, sea, seaL, refs, refsL, refsEls, refsO, isPureEls, isPures, isPure, noExt, noExts, noExtEls, cellsL, ren, renL, renEls, keepO, keepS, keysO, refsS, refsOB, headC, setS, boxO, row, putW, putB, putB1, eNl, newOs, frz, renO, noExtO, zps, zp, two32, w64, -getElem?_pos, k_cnt, k_cnt0]
/-- How long a frame is, as its first two bytes tell. -/
theorem V21 (N d : Nat) (bs : List Int) (hb : bs.length < 1000000) (hr : ∀ x ∈ bs, 0 ≤ x ∧ x ≤ 255) : sem tab (N + 100) (d + 3) 31 [.l false (byL bs)] [] = some (.i .i64 (longF bs), []) := by
  rw [sem_succ tab (N + 100) (d + 2) 31 m31 rfl]
  have hl := byL_len bs
  unfold longF
  by_cases h2 : bs.length < 2
  · have h23 := V23x N d false bs 0 2 (by omega) hb (by omega) (by omega)
    rw [if_pos h2]
    generalize byL bs = b at *
    rw [show ((0 : Nat) : Int) = 0 from rfl, show ((2 : Nat) : Int) = 2 from rfl] at h23
    simp -implicitDefEqProofs (maxSteps := 1000000) (disch := first | omega | rfl) [m31, h23, KF, KS, getS, getO, gS, zipN, dropW, takeW, wds, stvs, sea, seaL, refs, refsL, refsEls, refsO, isPureEls, isPures, isPure, noExt, noExts, noExtEls, cellsL, ren, renL, renEls, keepO, keepS, keysO, refsS, refsOB, headC, setS, boxO, row, putW, putB, putB1, eNl, newOs, frz, renO, noExtO, zps, zp, two32, w64, -getElem?_pos, k_cnt, k_cnt0]
  · have h23 := V99 N d false bs 0 2 (by omega) hb hr (by omega)
    rw [if_neg h2]
    rw [show ((0 : Nat) : Int) = 0 from rfl, show ((2 : Nat) : Int) = 2 from rfl, List.drop_zero] at h23
    have hv := val_range (bs.take 2) (fun x hx => hr x (List.mem_of_mem_take hx))
    have hl2 : (bs.take 2).length = 2 := by rw [List.length_take]; omega
    rw [hl2] at hv
    generalize val (bs.take 2) = v at *
    have w0 : IntKind.i64.wrap v = v := by rw [IntKind.wrap_i64]; omega
    have w1 : IntKind.i64.wrap ((bs.length : Int) - 2) = (bs.length : Int) - 2 := by rw [IntKind.wrap_i64]; omega
    have w2 : IntKind.i64.wrap (2 + v) = 2 + v := by rw [IntKind.wrap_i64]; omega
    rw [← hl] at w1 ⊢
    generalize byL bs = b at *
    by_cases c : v > (b.length : Int) - 2
    · rw [if_pos c]
      simp -implicitDefEqProofs (maxSteps := 1000000) (disch := first | omega | rfl) [m31, h23, w0, w1, w2, c, KF, KS, getS, getO, gS, zipN, dropW, takeW, wds, stvs, sea, seaL, refs, refsL, refsEls, refsO, isPureEls, isPures, isPure, noExt, noExts, noExtEls, cellsL, ren, renL, renEls, keepO, keepS, keysO, refsS, refsOB, headC, setS, boxO, row, putW, putB, putB1, eNl, newOs, frz, renO, noExtO, zps, zp, two32, w64, -getElem?_pos, k_cnt, k_cnt0]
    · rw [if_neg c]
      simp -implicitDefEqProofs (maxSteps := 1000000) (disch := first | omega | rfl) [m31, h23, w0, w1, w2, c, KF, KS, getS, getO, gS, zipN, dropW, takeW, wds, stvs, sea, seaL, refs, refsL, refsEls, refsO, isPureEls, isPures, isPure, noExt, noExts, noExtEls, cellsL, ren, renL, renEls, keepO, keepS, keysO, refsS, refsOB, headC, setS, boxO, row, putW, putB, putB1, eNl, newOs, frz, renO, noExtO, zps, zp, two32, w64, -getElem?_pos, k_cnt, k_cnt0]
end
section
attribute [local congr] bnd_cg bndO_cg br_cg
def sl11 (b : List (List PV)) (t : Bool) (at' : Int) (n i : Nat) : SL := [(0, .l false b), (2, .p 80 0 0 0 none), (5, .p 104 0 0 0 none), (7, .b t), (8, .i .i64 at'), (42, .sl 376 0 0 n), (43, .i .i64 n), (44, .i .i64 i)]
def ob11 (k : Int) (h : Fra) : OB := [(80, fbox zeF), (104, fbox h), (376, rowS (slF 104 k) (cpF k))]
set_option maxHeartbeats 4000000 in
theorem s11_0_0 (Φ : Sem') (N : Nat) (g : SL → OB → Option R) (b : List (List PV)) (v0 : Int) (hw : IntKind.i64.wrap v0 = v0) (H : Φ 33 [.l false b, .i .i64 3, .i .i64 1] [] = some (.tup [.i .u64 v0, .i .i64 4], [])) :
    m18b0 Φ N [] g (sl11 b false 3 2 0) (ob11 0 ⟨0, 0, 0, 0, 0, 0, 0, 0, z32⟩) = g (sl11 b false 4 2 1) (ob11 0 ⟨0, v0, 0, 0, 0, 0, 0, 0, z32⟩) := by
  simp only [sl11, ob11, fbox, frC, rowS, sU, sN, box, slF, cpF, zeF]
  generalize uL z32 = z at *
  simp -implicitDefEqProofs (maxSteps := 1000000) (disch := first | omega | rfl) [m18b0, H, hw, KF, KS, getS, getO, gS, zipN, dropW, takeW, wds, stvs, sea, seaL, refs, refsL, refsEls, refsO, isPureEls, isPures, isPure, noExt, noExts, noExtEls, cellsL, ren, renL, renEls, keepO, keepS, keysO, refsS, refsOB, headC, setS, boxO, row, putW, putB, putB1, eNl, newOs, frz, renO, noExtO, zps, zp, two32, w64, -getElem?_pos, k_cnt, k_cnt0]
set_option maxHeartbeats 4000000 in
theorem x11_0_0 (Φ : Sem') (N : Nat) (g : SL → OB → Option R) (b : List (List PV)) (H : Φ 33 [.l false b, .i .i64 3, .i .i64 1] [] = some (.tup [.i .u64 0, .i .i64 (-1)], [])) :
    m18b0 Φ N [] g (sl11 b false 3 2 0) (ob11 0 ⟨0, 0, 0, 0, 0, 0, 0, 0, z32⟩) = some (.tup [.agg (frC zeF), .i .i64 3], []) := by
  have hu := uz32
  simp only [sl11, ob11, fbox, frC, rowS, sU, sN, box, slF, cpF, zeF]
  generalize uL z32 = z at *
  subst hu
  simp -implicitDefEqProofs (maxSteps := 1000000) (disch := first | omega | rfl) [m18b0, H, KF, KS, getS, getO, gS, zipN, dropW, takeW, wds, stvs, sea, seaL, refs, refsL, refsEls, refsO, isPureEls, isPures, isPure, noExt, noExts, noExtEls, cellsL, ren, renL, renEls, keepO, keepS, keysO, refsS, refsOB, headC, setS, boxO, row, putW, putB, putB1, eNl, newOs, frz, renO, noExtO, zps, zp, two32, w64, -getElem?_pos, k_cnt, k_cnt0]
set_option maxHeartbeats 4000000 in
theorem s11_0_1 (Φ : Sem') (N : Nat) (g : SL → OB → Option R) (b : List (List PV)) (v0 v1 : Int) (H : Φ 33 [.l false b, .i .i64 4, .i .i64 8] [] = some (.tup [.i .u64 v1, .i .i64 12], [])) :
    m18b0 Φ N [] g (sl11 b false 4 2 1) (ob11 0 ⟨0, v0, 0, 0, 0, 0, 0, 0, z32⟩) = g (sl11 b false 12 2 2) (ob11 0 ⟨0, v0, 0, v1, 0, 0, 0, 0, z32⟩) := by
  simp only [sl11, ob11, fbox, frC, rowS, sU, sN, box, slF, cpF, zeF]
  generalize uL z32 = z at *
  simp -implicitDefEqProofs (maxSteps := 1000000) (disch := first | omega | rfl) [m18b0, H, KF, KS, getS, getO, gS, zipN, dropW, takeW, wds, stvs, sea, seaL, refs, refsL, refsEls, refsO, isPureEls, isPures, isPure, noExt, noExts, noExtEls, cellsL, ren, renL, renEls, keepO, keepS, keysO, refsS, refsOB, headC, setS, boxO, row, putW, putB, putB1, eNl, newOs, frz, renO, noExtO, zps, zp, two32, w64, -getElem?_pos, k_cnt, k_cnt0]
set_option maxHeartbeats 4000000 in
theorem x11_0_1 (Φ : Sem') (N : Nat) (g : SL → OB → Option R) (b : List (List PV)) (v0 : Int) (H : Φ 33 [.l false b, .i .i64 4, .i .i64 8] [] = some (.tup [.i .u64 0, .i .i64 (-1)], [])) :
    m18b0 Φ N [] g (sl11 b false 4 2 1) (ob11 0 ⟨0, v0, 0, 0, 0, 0, 0, 0, z32⟩) = some (.tup [.agg (frC zeF), .i .i64 3], []) := by
  have hu := uz32
  simp only [sl11, ob11, fbox, frC, rowS, sU, sN, box, slF, cpF, zeF]
  generalize uL z32 = z at *
  subst hu
  simp -implicitDefEqProofs (maxSteps := 1000000) (disch := first | omega | rfl) [m18b0, H, KF, KS, getS, getO, gS, zipN, dropW, takeW, wds, stvs, sea, seaL, refs, refsL, refsEls, refsO, isPureEls, isPures, isPure, noExt, noExts, noExtEls, cellsL, ren, renL, renEls, keepO, keepS, keysO, refsS, refsOB, headC, setS, boxO, row, putW, putB, putB1, eNl, newOs, frz, renO, noExtO, zps, zp, two32, w64, -getElem?_pos, k_cnt, k_cnt0]
set_option maxHeartbeats 4000000 in
theorem s11_1_0 (Φ : Sem') (N : Nat) (g : SL → OB → Option R) (b : List (List PV)) (v0 : Int) (H : Φ 33 [.l false b, .i .i64 3, .i .i64 8] [] = some (.tup [.i .u64 v0, .i .i64 11], [])) :
    m18b0 Φ N [] g (sl11 b false 3 2 0) (ob11 1 ⟨1, 0, 0, 0, 0, 0, 0, 0, z32⟩) = g (sl11 b false 11 2 1) (ob11 1 ⟨1, 0, v0, 0, 0, 0, 0, 0, z32⟩) := by
  simp only [sl11, ob11, fbox, frC, rowS, sU, sN, box, slF, cpF, zeF]
  generalize uL z32 = z at *
  simp -implicitDefEqProofs (maxSteps := 1000000) (disch := first | omega | rfl) [m18b0, H, KF, KS, getS, getO, gS, zipN, dropW, takeW, wds, stvs, sea, seaL, refs, refsL, refsEls, refsO, isPureEls, isPures, isPure, noExt, noExts, noExtEls, cellsL, ren, renL, renEls, keepO, keepS, keysO, refsS, refsOB, headC, setS, boxO, row, putW, putB, putB1, eNl, newOs, frz, renO, noExtO, zps, zp, two32, w64, -getElem?_pos, k_cnt, k_cnt0]
set_option maxHeartbeats 4000000 in
theorem x11_1_0 (Φ : Sem') (N : Nat) (g : SL → OB → Option R) (b : List (List PV)) (H : Φ 33 [.l false b, .i .i64 3, .i .i64 8] [] = some (.tup [.i .u64 0, .i .i64 (-1)], [])) :
    m18b0 Φ N [] g (sl11 b false 3 2 0) (ob11 1 ⟨1, 0, 0, 0, 0, 0, 0, 0, z32⟩) = some (.tup [.agg (frC zeF), .i .i64 3], []) := by
  have hu := uz32
  simp only [sl11, ob11, fbox, frC, rowS, sU, sN, box, slF, cpF, zeF]
  generalize uL z32 = z at *
  subst hu
  simp -implicitDefEqProofs (maxSteps := 1000000) (disch := first | omega | rfl) [m18b0, H, KF, KS, getS, getO, gS, zipN, dropW, takeW, wds, stvs, sea, seaL, refs, refsL, refsEls, refsO, isPureEls, isPures, isPure, noExt, noExts, noExtEls, cellsL, ren, renL, renEls, keepO, keepS, keysO, refsS, refsOB, headC, setS, boxO, row, putW, putB, putB1, eNl, newOs, frz, renO, noExtO, zps, zp, two32, w64, -getElem?_pos, k_cnt, k_cnt0]
set_option maxHeartbeats 4000000 in
theorem s11_1_1 (Φ : Sem') (N : Nat) (g : SL → OB → Option R) (b : List (List PV)) (v0 v1 : Int) (hw : IntKind.i64.wrap v1 = v1) (H : Φ 33 [.l false b, .i .i64 11, .i .i64 4] [] = some (.tup [.i .u64 v1, .i .i64 15], [])) :
    m18b0 Φ N [] g (sl11 b false 11 2 1) (ob11 1 ⟨1, 0, v0, 0, 0, 0, 0, 0, z32⟩) = g (sl11 b false 15 2 2) (ob11 1 ⟨1, 0, v0, 0, v1, 0, 0, 0, z32⟩) := by
  simp only [sl11, ob11, fbox, frC, rowS, sU, sN, box, slF, cpF, zeF]
  generalize uL z32 = z at *
  simp -implicitDefEqProofs (maxSteps := 1000000) (disch := first | omega | rfl) [m18b0, H, hw, KF, KS, getS, getO, gS, zipN, dropW, takeW, wds, stvs, sea, seaL, refs, refsL, refsEls, refsO, isPureEls, isPures, isPure, noExt, noExts, noExtEls, cellsL, ren, renL, renEls, keepO, keepS, keysO, refsS, refsOB, headC, setS, boxO, row, putW, putB, putB1, eNl, newOs, frz, renO, noExtO, zps, zp, two32, w64, -getElem?_pos, k_cnt, k_cnt0]
set_option maxHeartbeats 4000000 in
theorem x11_1_1 (Φ : Sem') (N : Nat) (g : SL → OB → Option R) (b : List (List PV)) (v0 : Int) (H : Φ 33 [.l false b, .i .i64 11, .i .i64 4] [] = some (.tup [.i .u64 0, .i .i64 (-1)], [])) :
    m18b0 Φ N [] g (sl11 b false 11 2 1) (ob11 1 ⟨1, 0, v0, 0, 0, 0, 0, 0, z32⟩) = some (.tup [.agg (frC zeF), .i .i64 3], []) := by
  have hu := uz32
  simp only [sl11, ob11, fbox, frC, rowS, sU, sN, box, slF, cpF, zeF]
  generalize uL z32 = z at *
  subst hu
  simp -implicitDefEqProofs (maxSteps := 1000000) (disch := first | omega | rfl) [m18b0, H, KF, KS, getS, getO, gS, zipN, dropW, takeW, wds, stvs, sea, seaL, refs, refsL, refsEls, refsO, isPureEls, isPures, isPure, noExt, noExts, noExtEls, cellsL, ren, renL, renEls, keepO, keepS, keysO, refsS, refsOB, headC, setS, boxO, row, putW, putB, putB1, eNl, newOs, frz, renO, noExtO, zps, zp, two32, w64, -getElem?_pos, k_cnt, k_cnt0]
set_option maxHeartbeats 4000000 in
theorem s11_2_0 (Φ : Sem') (N : Nat) (g : SL → OB → Option R) (b : List (List PV)) (v0 : Int) (H : Φ 33 [.l false b, .i .i64 3, .i .i64 8] [] = some (.tup [.i .u64 v0, .i .i64 11], [])) :
    m18b0 Φ N [] g (sl11 b true 3 1 0) (ob11 2 ⟨2, 0, 0, 0, 0, 0, 0, 0, z32⟩) = g (sl11 b true 11 1 1) (ob11 2 ⟨2, 0, v0, 0, 0, 0, 0, 0, z32⟩) := by
  simp only [sl11, ob11, fbox, frC, rowS, sU, sN, box, slF, cpF, zeF]
  generalize uL z32 = z at *
  simp -implicitDefEqProofs (maxSteps := 1000000) (disch := first | omega | rfl) [m18b0, H, KF, KS, getS, getO, gS, zipN, dropW, takeW, wds, stvs, sea, seaL, refs, refsL, refsEls, refsO, isPureEls, isPures, isPure, noExt, noExts, noExtEls, cellsL, ren, renL, renEls, keepO, keepS, keysO, refsS, refsOB, headC, setS, boxO, row, putW, putB, putB1, eNl, newOs, frz, renO, noExtO, zps, zp, two32, w64, -getElem?_pos, k_cnt, k_cnt0]
set_option maxHeartbeats 4000000 in
theorem x11_2_0 (Φ : Sem') (N : Nat) (g : SL → OB → Option R) (b : List (List PV)) (H : Φ 33 [.l false b, .i .i64 3, .i .i64 8] [] = some (.tup [.i .u64 0, .i .i64 (-1)], [])) :
    m18b0 Φ N [] g (sl11 b true 3 1 0) (ob11 2 ⟨2, 0, 0, 0, 0, 0, 0, 0, z32⟩) = some (.tup [.agg (frC zeF), .i .i64 3], []) := by
  have hu := uz32
  simp only [sl11, ob11, fbox, frC, rowS, sU, sN, box, slF, cpF, zeF]
  generalize uL z32 = z at *
  subst hu
  simp -implicitDefEqProofs (maxSteps := 1000000) (disch := first | omega | rfl) [m18b0, H, KF, KS, getS, getO, gS, zipN, dropW, takeW, wds, stvs, sea, seaL, refs, refsL, refsEls, refsO, isPureEls, isPures, isPure, noExt, noExts, noExtEls, cellsL, ren, renL, renEls, keepO, keepS, keysO, refsS, refsOB, headC, setS, boxO, row, putW, putB, putB1, eNl, newOs, frz, renO, noExtO, zps, zp, two32, w64, -getElem?_pos, k_cnt, k_cnt0]
set_option maxHeartbeats 4000000 in
theorem s11_3_0 (Φ : Sem') (N : Nat) (g : SL → OB → Option R) (b : List (List PV)) (v0 : Int) (H : Φ 33 [.l false b, .i .i64 3, .i .i64 8] [] = some (.tup [.i .u64 v0, .i .i64 11], [])) :
    m18b0 Φ N [] g (sl11 b true 3 1 0) (ob11 3 ⟨3, 0, 0, 0, 0, 0, 0, 0, z32⟩) = g (sl11 b true 11 1 1) (ob11 3 ⟨3, 0, v0, 0, 0, 0, 0, 0, z32⟩) := by
  simp only [sl11, ob11, fbox, frC, rowS, sU, sN, box, slF, cpF, zeF]
  generalize uL z32 = z at *
  simp -implicitDefEqProofs (maxSteps := 1000000) (disch := first | omega | rfl) [m18b0, H, KF, KS, getS, getO, gS, zipN, dropW, takeW, wds, stvs, sea, seaL, refs, refsL, refsEls, refsO, isPureEls, isPures, isPure, noExt, noExts, noExtEls, cellsL, ren, renL, renEls, keepO, keepS, keysO, refsS, refsOB, headC, setS, boxO, row, putW, putB, putB1, eNl, newOs, frz, renO, noExtO, zps, zp, two32, w64, -getElem?_pos, k_cnt, k_cnt0]
set_option maxHeartbeats 4000000 in
theorem x11_3_0 (Φ : Sem') (N : Nat) (g : SL → OB → Option R) (b : List (List PV)) (H : Φ 33 [.l false b, .i .i64 3, .i .i64 8] [] = some (.tup [.i .u64 0, .i .i64 (-1)], [])) :
    m18b0 Φ N [] g (sl11 b true 3 1 0) (ob11 3 ⟨3, 0, 0, 0, 0, 0, 0, 0, z32⟩) = some (.tup [.agg (frC zeF), .i .i64 3], []) := by
  have hu := uz32
  simp only [sl11, ob11, fbox, frC, rowS, sU, sN, box, slF, cpF, zeF]
  generalize uL z32 = z at *
  subst hu
  simp -implicitDefEqProofs (maxSteps := 1000000) (disch := first | omega | rfl) [m18b0, H, KF, KS, getS, getO, gS, zipN, dropW, takeW, wds, stvs, sea, seaL, refs, refsL, refsEls, refsO, isPureEls, isPures, isPure, noExt, noExts, noExtEls, cellsL, ren, renL, renEls, keepO, keepS, keysO, refsS, refsOB, headC, setS, boxO, row, putW, putB, putB1, eNl, newOs, frz, renO, noExtO, zps, zp, two32, w64, -getElem?_pos, k_cnt, k_cnt0]
set_option maxHeartbeats 4000000 in
theorem s11_4_0 (Φ : Sem') (N : Nat) (g : SL → OB → Option R) (b : List (List PV)) (v0 : Int) (H : Φ 33 [.l false b, .i .i64 3, .i .i64 8] [] = some (.tup [.i .u64 v0, .i .i64 11], [])) :
    m18b0 Φ N [] g (sl11 b true 3 4 0) (ob11 4 ⟨4, 0, 0, 0, 0, 0, 0, 0, z32⟩) = g (sl11 b true 11 4 1) (ob11 4 ⟨4, 0, v0, 0, 0, 0, 0, 0, z32⟩) := by
  simp only [sl11, ob11, fbox, frC, rowS, sU, sN, box, slF, cpF, zeF]
  generalize uL z32 = z at *
  simp -implicitDefEqProofs (maxSteps := 1000000) (disch := first | omega | rfl) [m18b0, H, KF, KS, getS, getO, gS, zipN, dropW, takeW, wds, stvs, sea, seaL, refs, refsL, refsEls, refsO, isPureEls, isPures, isPure, noExt, noExts, noExtEls, cellsL, ren, renL, renEls, keepO, keepS, keysO, refsS, refsOB, headC, setS, boxO, row, putW, putB, putB1, eNl, newOs, frz, renO, noExtO, zps, zp, two32, w64, -getElem?_pos, k_cnt, k_cnt0]
set_option maxHeartbeats 4000000 in
theorem x11_4_0 (Φ : Sem') (N : Nat) (g : SL → OB → Option R) (b : List (List PV)) (H : Φ 33 [.l false b, .i .i64 3, .i .i64 8] [] = some (.tup [.i .u64 0, .i .i64 (-1)], [])) :
    m18b0 Φ N [] g (sl11 b true 3 4 0) (ob11 4 ⟨4, 0, 0, 0, 0, 0, 0, 0, z32⟩) = some (.tup [.agg (frC zeF), .i .i64 3], []) := by
  have hu := uz32
  simp only [sl11, ob11, fbox, frC, rowS, sU, sN, box, slF, cpF, zeF]
  generalize uL z32 = z at *
  subst hu
  simp -implicitDefEqProofs (maxSteps := 1000000) (disch := first | omega | rfl) [m18b0, H, KF, KS, getS, getO, gS, zipN, dropW, takeW, wds, stvs, sea, seaL, refs, refsL, refsEls, refsO, isPureEls, isPures, isPure, noExt, noExts, noExtEls, cellsL, ren, renL, renEls, keepO, keepS, keysO, refsS, refsOB, headC, setS, boxO, row, putW, putB, putB1, eNl, newOs, frz, renO, noExtO, zps, zp, two32, w64, -getElem?_pos, k_cnt, k_cnt0]
set_option maxHeartbeats 4000000 in
theorem s11_4_1 (Φ : Sem') (N : Nat) (g : SL → OB → Option R) (b : List (List PV)) (v0 v1 : Int) (H : Φ 33 [.l false b, .i .i64 11, .i .i64 8] [] = some (.tup [.i .u64 v1, .i .i64 19], [])) :
    m18b0 Φ N [] g (sl11 b true 11 4 1) (ob11 4 ⟨4, 0, v0, 0, 0, 0, 0, 0, z32⟩) = g (sl11 b true 19 4 2) (ob11 4 ⟨4, 0, v0, 0, 0, v1, 0, 0, z32⟩) := by
  simp only [sl11, ob11, fbox, frC, rowS, sU, sN, box, slF, cpF, zeF]
  generalize uL z32 = z at *
  simp -implicitDefEqProofs (maxSteps := 1000000) (disch := first | omega | rfl) [m18b0, H, KF, KS, getS, getO, gS, zipN, dropW, takeW, wds, stvs, sea, seaL, refs, refsL, refsEls, refsO, isPureEls, isPures, isPure, noExt, noExts, noExtEls, cellsL, ren, renL, renEls, keepO, keepS, keysO, refsS, refsOB, headC, setS, boxO, row, putW, putB, putB1, eNl, newOs, frz, renO, noExtO, zps, zp, two32, w64, -getElem?_pos, k_cnt, k_cnt0]
set_option maxHeartbeats 4000000 in
theorem x11_4_1 (Φ : Sem') (N : Nat) (g : SL → OB → Option R) (b : List (List PV)) (v0 : Int) (H : Φ 33 [.l false b, .i .i64 11, .i .i64 8] [] = some (.tup [.i .u64 0, .i .i64 (-1)], [])) :
    m18b0 Φ N [] g (sl11 b true 11 4 1) (ob11 4 ⟨4, 0, v0, 0, 0, 0, 0, 0, z32⟩) = some (.tup [.agg (frC zeF), .i .i64 3], []) := by
  have hu := uz32
  simp only [sl11, ob11, fbox, frC, rowS, sU, sN, box, slF, cpF, zeF]
  generalize uL z32 = z at *
  subst hu
  simp -implicitDefEqProofs (maxSteps := 1000000) (disch := first | omega | rfl) [m18b0, H, KF, KS, getS, getO, gS, zipN, dropW, takeW, wds, stvs, sea, seaL, refs, refsL, refsEls, refsO, isPureEls, isPures, isPure, noExt, noExts, noExtEls, cellsL, ren, renL, renEls, keepO, keepS, keysO, refsS, refsOB, headC, setS, boxO, row, putW, putB, putB1, eNl, newOs, frz, renO, noExtO, zps, zp, two32, w64, -getElem?_pos, k_cnt, k_cnt0]
set_option maxHeartbeats 4000000 in
theorem s11_4_2 (Φ : Sem') (N : Nat) (g : SL → OB → Option R) (b : List (List PV)) (v0 v1 v2 : Int) (hw : IntKind.i64.wrap v2 = v2) (H : Φ 33 [.l false b, .i .i64 19, .i .i64 1] [] = some (.tup [.i .u64 v2, .i .i64 20], [])) :
    m18b0 Φ N [] g (sl11 b true 19 4 2) (ob11 4 ⟨4, 0, v0, 0, 0, v1, 0, 0, z32⟩) = g (sl11 b true 20 4 3) (ob11 4 ⟨4, 0, v0, 0, 0, v1, v2, 0, z32⟩) := by
  simp only [sl11, ob11, fbox, frC, rowS, sU, sN, box, slF, cpF, zeF]
  generalize uL z32 = z at *
  simp -implicitDefEqProofs (maxSteps := 1000000) (disch := first | omega | rfl) [m18b0, H, hw, KF, KS, getS, getO, gS, zipN, dropW, takeW, wds, stvs, sea, seaL, refs, refsL, refsEls, refsO, isPureEls, isPures, isPure, noExt, noExts, noExtEls, cellsL, ren, renL, renEls, keepO, keepS, keysO, refsS, refsOB, headC, setS, boxO, row, putW, putB, putB1, eNl, newOs, frz, renO, noExtO, zps, zp, two32, w64, -getElem?_pos, k_cnt, k_cnt0]
set_option maxHeartbeats 4000000 in
theorem x11_4_2 (Φ : Sem') (N : Nat) (g : SL → OB → Option R) (b : List (List PV)) (v0 v1 : Int) (H : Φ 33 [.l false b, .i .i64 19, .i .i64 1] [] = some (.tup [.i .u64 0, .i .i64 (-1)], [])) :
    m18b0 Φ N [] g (sl11 b true 19 4 2) (ob11 4 ⟨4, 0, v0, 0, 0, v1, 0, 0, z32⟩) = some (.tup [.agg (frC zeF), .i .i64 3], []) := by
  have hu := uz32
  simp only [sl11, ob11, fbox, frC, rowS, sU, sN, box, slF, cpF, zeF]
  generalize uL z32 = z at *
  subst hu
  simp -implicitDefEqProofs (maxSteps := 1000000) (disch := first | omega | rfl) [m18b0, H, KF, KS, getS, getO, gS, zipN, dropW, takeW, wds, stvs, sea, seaL, refs, refsL, refsEls, refsO, isPureEls, isPures, isPure, noExt, noExts, noExtEls, cellsL, ren, renL, renEls, keepO, keepS, keysO, refsS, refsOB, headC, setS, boxO, row, putW, putB, putB1, eNl, newOs, frz, renO, noExtO, zps, zp, two32, w64, -getElem?_pos, k_cnt, k_cnt0]
set_option maxHeartbeats 4000000 in
theorem s11_4_3 (Φ : Sem') (N : Nat) (g : SL → OB → Option R) (b : List (List PV)) (v0 v1 v2 v3 : Int) (hw : IntKind.i64.wrap v3 = v3) (H : Φ 33 [.l false b, .i .i64 20, .i .i64 2] [] = some (.tup [.i .u64 v3, .i .i64 22], [])) :
    m18b0 Φ N [] g (sl11 b true 20 4 3) (ob11 4 ⟨4, 0, v0, 0, 0, v1, v2, 0, z32⟩) = g (sl11 b true 22 4 4) (ob11 4 ⟨4, 0, v0, 0, 0, v1, v2, v3, z32⟩) := by
  simp only [sl11, ob11, fbox, frC, rowS, sU, sN, box, slF, cpF, zeF]
  generalize uL z32 = z at *
  simp -implicitDefEqProofs (maxSteps := 1000000) (disch := first | omega | rfl) [m18b0, H, hw, KF, KS, getS, getO, gS, zipN, dropW, takeW, wds, stvs, sea, seaL, refs, refsL, refsEls, refsO, isPureEls, isPures, isPure, noExt, noExts, noExtEls, cellsL, ren, renL, renEls, keepO, keepS, keysO, refsS, refsOB, headC, setS, boxO, row, putW, putB, putB1, eNl, newOs, frz, renO, noExtO, zps, zp, two32, w64, -getElem?_pos, k_cnt, k_cnt0]
set_option maxHeartbeats 4000000 in
theorem x11_4_3 (Φ : Sem') (N : Nat) (g : SL → OB → Option R) (b : List (List PV)) (v0 v1 v2 : Int) (H : Φ 33 [.l false b, .i .i64 20, .i .i64 2] [] = some (.tup [.i .u64 0, .i .i64 (-1)], [])) :
    m18b0 Φ N [] g (sl11 b true 20 4 3) (ob11 4 ⟨4, 0, v0, 0, 0, v1, v2, 0, z32⟩) = some (.tup [.agg (frC zeF), .i .i64 3], []) := by
  have hu := uz32
  simp only [sl11, ob11, fbox, frC, rowS, sU, sN, box, slF, cpF, zeF]
  generalize uL z32 = z at *
  subst hu
  simp -implicitDefEqProofs (maxSteps := 1000000) (disch := first | omega | rfl) [m18b0, H, KF, KS, getS, getO, gS, zipN, dropW, takeW, wds, stvs, sea, seaL, refs, refsL, refsEls, refsO, isPureEls, isPures, isPure, noExt, noExts, noExtEls, cellsL, ren, renL, renEls, keepO, keepS, keysO, refsS, refsOB, headC, setS, boxO, row, putW, putB, putB1, eNl, newOs, frz, renO, noExtO, zps, zp, two32, w64, -getElem?_pos, k_cnt, k_cnt0]
set_option maxHeartbeats 4000000 in
theorem s11_5_0 (Φ : Sem') (N : Nat) (g : SL → OB → Option R) (b : List (List PV)) (v0 : Int) (H : Φ 33 [.l false b, .i .i64 3, .i .i64 8] [] = some (.tup [.i .u64 v0, .i .i64 11], [])) :
    m18b0 Φ N [] g (sl11 b true 3 4 0) (ob11 5 ⟨5, 0, 0, 0, 0, 0, 0, 0, z32⟩) = g (sl11 b true 11 4 1) (ob11 5 ⟨5, 0, v0, 0, 0, 0, 0, 0, z32⟩) := by
  simp only [sl11, ob11, fbox, frC, rowS, sU, sN, box, slF, cpF, zeF]
  generalize uL z32 = z at *
  simp -implicitDefEqProofs (maxSteps := 1000000) (disch := first | omega | rfl) [m18b0, H, KF, KS, getS, getO, gS, zipN, dropW, takeW, wds, stvs, sea, seaL, refs, refsL, refsEls, refsO, isPureEls, isPures, isPure, noExt, noExts, noExtEls, cellsL, ren, renL, renEls, keepO, keepS, keysO, refsS, refsOB, headC, setS, boxO, row, putW, putB, putB1, eNl, newOs, frz, renO, noExtO, zps, zp, two32, w64, -getElem?_pos, k_cnt, k_cnt0]
set_option maxHeartbeats 4000000 in
theorem x11_5_0 (Φ : Sem') (N : Nat) (g : SL → OB → Option R) (b : List (List PV)) (H : Φ 33 [.l false b, .i .i64 3, .i .i64 8] [] = some (.tup [.i .u64 0, .i .i64 (-1)], [])) :
    m18b0 Φ N [] g (sl11 b true 3 4 0) (ob11 5 ⟨5, 0, 0, 0, 0, 0, 0, 0, z32⟩) = some (.tup [.agg (frC zeF), .i .i64 3], []) := by
  have hu := uz32
  simp only [sl11, ob11, fbox, frC, rowS, sU, sN, box, slF, cpF, zeF]
  generalize uL z32 = z at *
  subst hu
  simp -implicitDefEqProofs (maxSteps := 1000000) (disch := first | omega | rfl) [m18b0, H, KF, KS, getS, getO, gS, zipN, dropW, takeW, wds, stvs, sea, seaL, refs, refsL, refsEls, refsO, isPureEls, isPures, isPure, noExt, noExts, noExtEls, cellsL, ren, renL, renEls, keepO, keepS, keysO, refsS, refsOB, headC, setS, boxO, row, putW, putB, putB1, eNl, newOs, frz, renO, noExtO, zps, zp, two32, w64, -getElem?_pos, k_cnt, k_cnt0]
set_option maxHeartbeats 4000000 in
theorem s11_5_1 (Φ : Sem') (N : Nat) (g : SL → OB → Option R) (b : List (List PV)) (v0 v1 : Int) (H : Φ 33 [.l false b, .i .i64 11, .i .i64 8] [] = some (.tup [.i .u64 v1, .i .i64 19], [])) :
    m18b0 Φ N [] g (sl11 b true 11 4 1) (ob11 5 ⟨5, 0, v0, 0, 0, 0, 0, 0, z32⟩) = g (sl11 b true 19 4 2) (ob11 5 ⟨5, 0, v0, 0, 0, v1, 0, 0, z32⟩) := by
  simp only [sl11, ob11, fbox, frC, rowS, sU, sN, box, slF, cpF, zeF]
  generalize uL z32 = z at *
  simp -implicitDefEqProofs (maxSteps := 1000000) (disch := first | omega | rfl) [m18b0, H, KF, KS, getS, getO, gS, zipN, dropW, takeW, wds, stvs, sea, seaL, refs, refsL, refsEls, refsO, isPureEls, isPures, isPure, noExt, noExts, noExtEls, cellsL, ren, renL, renEls, keepO, keepS, keysO, refsS, refsOB, headC, setS, boxO, row, putW, putB, putB1, eNl, newOs, frz, renO, noExtO, zps, zp, two32, w64, -getElem?_pos, k_cnt, k_cnt0]
set_option maxHeartbeats 4000000 in
theorem x11_5_1 (Φ : Sem') (N : Nat) (g : SL → OB → Option R) (b : List (List PV)) (v0 : Int) (H : Φ 33 [.l false b, .i .i64 11, .i .i64 8] [] = some (.tup [.i .u64 0, .i .i64 (-1)], [])) :
    m18b0 Φ N [] g (sl11 b true 11 4 1) (ob11 5 ⟨5, 0, v0, 0, 0, 0, 0, 0, z32⟩) = some (.tup [.agg (frC zeF), .i .i64 3], []) := by
  have hu := uz32
  simp only [sl11, ob11, fbox, frC, rowS, sU, sN, box, slF, cpF, zeF]
  generalize uL z32 = z at *
  subst hu
  simp -implicitDefEqProofs (maxSteps := 1000000) (disch := first | omega | rfl) [m18b0, H, KF, KS, getS, getO, gS, zipN, dropW, takeW, wds, stvs, sea, seaL, refs, refsL, refsEls, refsO, isPureEls, isPures, isPure, noExt, noExts, noExtEls, cellsL, ren, renL, renEls, keepO, keepS, keysO, refsS, refsOB, headC, setS, boxO, row, putW, putB, putB1, eNl, newOs, frz, renO, noExtO, zps, zp, two32, w64, -getElem?_pos, k_cnt, k_cnt0]
set_option maxHeartbeats 4000000 in
theorem s11_5_2 (Φ : Sem') (N : Nat) (g : SL → OB → Option R) (b : List (List PV)) (v0 v1 v2 : Int) (hw : IntKind.i64.wrap v2 = v2) (H : Φ 33 [.l false b, .i .i64 19, .i .i64 1] [] = some (.tup [.i .u64 v2, .i .i64 20], [])) :
    m18b0 Φ N [] g (sl11 b true 19 4 2) (ob11 5 ⟨5, 0, v0, 0, 0, v1, 0, 0, z32⟩) = g (sl11 b true 20 4 3) (ob11 5 ⟨5, 0, v0, 0, 0, v1, v2, 0, z32⟩) := by
  simp only [sl11, ob11, fbox, frC, rowS, sU, sN, box, slF, cpF, zeF]
  generalize uL z32 = z at *
  simp -implicitDefEqProofs (maxSteps := 1000000) (disch := first | omega | rfl) [m18b0, H, hw, KF, KS, getS, getO, gS, zipN, dropW, takeW, wds, stvs, sea, seaL, refs, refsL, refsEls, refsO, isPureEls, isPures, isPure, noExt, noExts, noExtEls, cellsL, ren, renL, renEls, keepO, keepS, keysO, refsS, refsOB, headC, setS, boxO, row, putW, putB, putB1, eNl, newOs, frz, renO, noExtO, zps, zp, two32, w64, -getElem?_pos, k_cnt, k_cnt0]
set_option maxHeartbeats 4000000 in
theorem x11_5_2 (Φ : Sem') (N : Nat) (g : SL → OB → Option R) (b : List (List PV)) (v0 v1 : Int) (H : Φ 33 [.l false b, .i .i64 19, .i .i64 1] [] = some (.tup [.i .u64 0, .i .i64 (-1)], [])) :
    m18b0 Φ N [] g (sl11 b true 19 4 2) (ob11 5 ⟨5, 0, v0, 0, 0, v1, 0, 0, z32⟩) = some (.tup [.agg (frC zeF), .i .i64 3], []) := by
  have hu := uz32
  simp only [sl11, ob11, fbox, frC, rowS, sU, sN, box, slF, cpF, zeF]
  generalize uL z32 = z at *
  subst hu
  simp -implicitDefEqProofs (maxSteps := 1000000) (disch := first | omega | rfl) [m18b0, H, KF, KS, getS, getO, gS, zipN, dropW, takeW, wds, stvs, sea, seaL, refs, refsL, refsEls, refsO, isPureEls, isPures, isPure, noExt, noExts, noExtEls, cellsL, ren, renL, renEls, keepO, keepS, keysO, refsS, refsOB, headC, setS, boxO, row, putW, putB, putB1, eNl, newOs, frz, renO, noExtO, zps, zp, two32, w64, -getElem?_pos, k_cnt, k_cnt0]
set_option maxHeartbeats 4000000 in
theorem s11_5_3 (Φ : Sem') (N : Nat) (g : SL → OB → Option R) (b : List (List PV)) (v0 v1 v2 v3 : Int) (hw : IntKind.i64.wrap v3 = v3) (H : Φ 33 [.l false b, .i .i64 20, .i .i64 2] [] = some (.tup [.i .u64 v3, .i .i64 22], [])) :
    m18b0 Φ N [] g (sl11 b true 20 4 3) (ob11 5 ⟨5, 0, v0, 0, 0, v1, v2, 0, z32⟩) = g (sl11 b true 22 4 4) (ob11 5 ⟨5, 0, v0, 0, 0, v1, v2, v3, z32⟩) := by
  simp only [sl11, ob11, fbox, frC, rowS, sU, sN, box, slF, cpF, zeF]
  generalize uL z32 = z at *
  simp -implicitDefEqProofs (maxSteps := 1000000) (disch := first | omega | rfl) [m18b0, H, hw, KF, KS, getS, getO, gS, zipN, dropW, takeW, wds, stvs, sea, seaL, refs, refsL, refsEls, refsO, isPureEls, isPures, isPure, noExt, noExts, noExtEls, cellsL, ren, renL, renEls, keepO, keepS, keysO, refsS, refsOB, headC, setS, boxO, row, putW, putB, putB1, eNl, newOs, frz, renO, noExtO, zps, zp, two32, w64, -getElem?_pos, k_cnt, k_cnt0]
set_option maxHeartbeats 4000000 in
theorem x11_5_3 (Φ : Sem') (N : Nat) (g : SL → OB → Option R) (b : List (List PV)) (v0 v1 v2 : Int) (H : Φ 33 [.l false b, .i .i64 20, .i .i64 2] [] = some (.tup [.i .u64 0, .i .i64 (-1)], [])) :
    m18b0 Φ N [] g (sl11 b true 20 4 3) (ob11 5 ⟨5, 0, v0, 0, 0, v1, v2, 0, z32⟩) = some (.tup [.agg (frC zeF), .i .i64 3], []) := by
  have hu := uz32
  simp only [sl11, ob11, fbox, frC, rowS, sU, sN, box, slF, cpF, zeF]
  generalize uL z32 = z at *
  subst hu
  simp -implicitDefEqProofs (maxSteps := 1000000) (disch := first | omega | rfl) [m18b0, H, KF, KS, getS, getO, gS, zipN, dropW, takeW, wds, stvs, sea, seaL, refs, refsL, refsEls, refsO, isPureEls, isPures, isPure, noExt, noExts, noExtEls, cellsL, ren, renL, renEls, keepO, keepS, keysO, refsS, refsOB, headC, setS, boxO, row, putW, putB, putB1, eNl, newOs, frz, renO, noExtO, zps, zp, two32, w64, -getElem?_pos, k_cnt, k_cnt0]
set_option maxHeartbeats 4000000 in
theorem s11_6_0 (Φ : Sem') (N : Nat) (g : SL → OB → Option R) (b : List (List PV)) (v0 : Int) (hw : IntKind.i64.wrap v0 = v0) (H : Φ 33 [.l false b, .i .i64 3, .i .i64 1] [] = some (.tup [.i .u64 v0, .i .i64 4], [])) :
    m18b0 Φ N [] g (sl11 b false 3 1 0) (ob11 6 ⟨6, 0, 0, 0, 0, 0, 0, 0, z32⟩) = g (sl11 b false 4 1 1) (ob11 6 ⟨6, 0, 0, 0, 0, 0, v0, 0, z32⟩) := by
  simp only [sl11, ob11, fbox, frC, rowS, sU, sN, box, slF, cpF, zeF]
  generalize uL z32 = z at *
  simp -implicitDefEqProofs (maxSteps := 1000000) (disch := first | omega | rfl) [m18b0, H, hw, KF, KS, getS, getO, gS, zipN, dropW, takeW, wds, stvs, sea, seaL, refs, refsL, refsEls, refsO, isPureEls, isPures, isPure, noExt, noExts, noExtEls, cellsL, ren, renL, renEls, keepO, keepS, keysO, refsS, refsOB, headC, setS, boxO, row, putW, putB, putB1, eNl, newOs, frz, renO, noExtO, zps, zp, two32, w64, -getElem?_pos, k_cnt, k_cnt0]
set_option maxHeartbeats 4000000 in
theorem x11_6_0 (Φ : Sem') (N : Nat) (g : SL → OB → Option R) (b : List (List PV)) (H : Φ 33 [.l false b, .i .i64 3, .i .i64 1] [] = some (.tup [.i .u64 0, .i .i64 (-1)], [])) :
    m18b0 Φ N [] g (sl11 b false 3 1 0) (ob11 6 ⟨6, 0, 0, 0, 0, 0, 0, 0, z32⟩) = some (.tup [.agg (frC zeF), .i .i64 3], []) := by
  have hu := uz32
  simp only [sl11, ob11, fbox, frC, rowS, sU, sN, box, slF, cpF, zeF]
  generalize uL z32 = z at *
  subst hu
  simp -implicitDefEqProofs (maxSteps := 1000000) (disch := first | omega | rfl) [m18b0, H, KF, KS, getS, getO, gS, zipN, dropW, takeW, wds, stvs, sea, seaL, refs, refsL, refsEls, refsO, isPureEls, isPures, isPure, noExt, noExts, noExtEls, cellsL, ren, renL, renEls, keepO, keepS, keysO, refsS, refsOB, headC, setS, boxO, row, putW, putB, putB1, eNl, newOs, frz, renO, noExtO, zps, zp, two32, w64, -getElem?_pos, k_cnt, k_cnt0]
end
section
attribute [local congr] bnd_cg bndO_cg br_cg
theorem scal_by (ys : List Int) : scalEls (byL ys) = true := by
  induction ys with
  | nil => rfl
  | cons x r ih => simpa [byL, scalEls, scal] using ih
theorem flat_take (ys : List Int) (n : Nat) : ((byL ys).take n).flatten = uL (ys.take n) := by
  simp only [byL, uL, ← List.map_take]
  induction ys.take n with
  | nil => rfl
  | cons x r ih => simp only [List.map_cons, List.flatten_cons, ih]; rfl
theorem cpy_tag (ob : OB) (h : Fra) (hz : h.tag = z32) (ys : List Int) (ho : getO ob 104 = some (fbox h)) : cpy ob 1 (.bs 104 8 0 32) (.l false (byL ys)) = some (.i .i64 ((min ys.length 32 : Nat) : Int), [(104, fbox { h with tag := ys.take 32 ++ z32.drop (min ys.length 32) })]) := by
  obtain ⟨a1, a2, a3, a4, a5, a6, a7, a8, a9⟩ := h
  simp only at hz
  subst hz
  have hl := byL_len ys
  have e1 : ys.take (min ys.length 32) = ys.take 32 := by
    rcases Nat.le_total ys.length 32 with h | h
    · rw [Nat.min_eq_left h, List.take_of_length_le (Nat.le_refl _), List.take_of_length_le h]
    · rw [Nat.min_eq_right h]
  have e2 : uL (ys.take 32 ++ z32.drop (min ys.length 32)) = uL (ys.take 32) ++ (uL z32).drop (min ys.length 32) := by simp [uL]
  have hz : (uL z32).length = 32 := by rw [uL_len]; rfl
  have hs := scal_by ys
  have hf := flat_take ys (min ys.length 32)
  rw [e1] at hf
  rw [← hl] at hf e2 ⊢
  simp only [fbox, frC, box, e2] at ho ⊢
  generalize uL (ys.take 32) = t at *
  generalize uL z32 = z at *
  generalize byL ys = b at *
  simp [cpy, cont, contL, cpC, cpX, cpyB, cpyE, cpyD, ho, dropW, takeW, wd, hs, hf, hz]
def ob11x (S : List (Nat × Obj')) (h : Fra) : OB := (80, fbox zeF) :: (104, fbox h) :: S
def sl11x (r : PV) (b : List (List PV)) (t : Bool) (at' : Int) (n : Int) : SL := [(0, .l false b), (2, .p 80 0 0 0 none), (5, .p 104 0 0 0 none), (7, .b t), (8, .i .i64 at'), (42, r), (43, .i .i64 n), (44, .i .i64 n)]
def errR (e : Int) : Option R := some (.tup [.agg (frC zeF), .i .i64 e], [])
def outP (b : Bool) (p : List Int) : Option R := cond b (some (.tup [.sl 0 0 0 p.length, .b true], [row (byL p) 1 true])) (some (.tup [.sl 0 0 0 0, .b false], [row [] 1 true]))
set_option maxHeartbeats 8000000 in
/-- Without a tag. -/
theorem e11u (Φ : Sem') (N : Nat) (g : SL → OB → Option R) (bs p : List Int) (S : List (Nat × Obj')) (r : PV) (h : Fra) (pl : Bool) (n at' : Int) (hS : getO S 736 = none)
    (H1 : Φ 17 [.agg (frC h)] [] = outP pl p) (H2 : Φ 34 [.l false (byL p), .l false (byL bs)] [] = some (.b (decide (p = bs)), [])) :
    m18b0 Φ N [] g (sl11x r (byL bs) false at' n) (ob11x S h) = cond (pl && ((at' == (bs.length : Int)) && decide (p = bs))) (some (.tup [.agg (frC h), .i .i64 0], [])) (errR 3) := by
  have hl := byL_len bs
  have hp := byL_len p
  have hu := uz32
  have lt : ¬ n < n := Int.lt_irrefl n
  unfold outP at H1
  unfold errR
  rw [← hl]
  rw [← hp] at H1
  have tp : List.take (byL p).length (byL p) = byL p := List.take_length
  generalize decide (p = bs) = e at *
  generalize byL p = c at *
  generalize byL bs = b at *
  obtain ⟨a1, a2, a3, a4, a5, a6, a7, a8, a9⟩ := h
  simp only [sl11x, ob11x, fbox, frC, zeF, box, row] at *
  generalize uL a9 = q at *
  generalize uL z32 = z at *
  subst hu
  cases pl
  · simp only [cond_false] at H1
    simp -implicitDefEqProofs (maxSteps := 1000000) (disch := first | omega | rfl) [m18b0, hS, H1, lt, KF, KS, getS, getO, gS, zipN, dropW, takeW, wds, stvs, sea, seaL, refs, refsL, refsEls, refsO, isPureEls, isPures, isPure, noExt, noExts, noExtEls, cellsL, ren, renL, renEls, keepO, keepS, keysO, refsS, refsOB, headC, setS, boxO, row, putW, putB, putB1, eNl, newOs, frz, renO, noExtO, zps, zp, two32, w64, -getElem?_pos, k_cnt, k_cnt0]
  · simp only [cond_true] at H1
    by_cases ha : at' = (b.length : Int)
    · have ha1 : (at' == (b.length : Int)) = true := by simp [ha]
      have ha2 : (at' != (b.length : Int)) = false := by simp [ha]
      cases e <;> simp -implicitDefEqProofs (maxSteps := 1000000) (disch := first | omega | rfl) [m18b0, hS, H1, H2, ha1, ha2, tp, lt, KF, KS, getS, getO, gS, zipN, dropW, takeW, wds, stvs, sea, seaL, refs, refsL, refsEls, refsO, isPureEls, isPures, isPure, noExt, noExts, noExtEls, cellsL, ren, renL, renEls, keepO, keepS, keysO, refsS, refsOB, headC, setS, boxO, row, putW, putB, putB1, eNl, newOs, frz, renO, noExtO, zps, zp, two32, w64, -getElem?_pos, k_cnt, k_cnt0]
    · have ha1 : (at' == (b.length : Int)) = false := by simp [ha]
      have ha2 : (at' != (b.length : Int)) = true := by simp [ha]
      simp -implicitDefEqProofs (maxSteps := 1000000) (disch := first | omega | rfl) [m18b0, hS, H1, ha1, ha2, tp, lt, KF, KS, getS, getO, gS, zipN, dropW, takeW, wds, stvs, sea, seaL, refs, refsL, refsEls, refsO, isPureEls, isPures, isPure, noExt, noExts, noExtEls, cellsL, ren, renL, renEls, keepO, keepS, keysO, refsS, refsOB, headC, setS, boxO, row, putW, putB, putB1, eNl, newOs, frz, renO, noExtO, zps, zp, two32, w64, -getElem?_pos, k_cnt, k_cnt0]
theorem slc_at (ob : OB) (b : List (List PV)) (i : Nat) (hw : allW 1 b = true) (hi : i ≤ b.length) : slc ob (.slice 1) (.l false b) (some (.i .i64 i)) none none = some (.l false (b.drop i), []) := by
  have t : List.take b.length b = b := List.take_length
  simp [slc, hw, slL, optI, natI, hi, t]
theorem drop_by (ys : List Int) (i : Nat) : (byL ys).drop i = byL (ys.drop i) := by simp [byL]
set_option maxHeartbeats 8000000 in
/-- With a tag. -/
theorem e11t (Φ : Sem') (N : Nat) (g : SL → OB → Option R) (bs p : List Int) (S : List (Nat × Obj')) (r : PV) (h : Fra) (pl : Bool) (n : Int) (i : Nat) (hz : h.tag = z32) (hi : i ≤ bs.length) (hb : bs.length < 1000000) (hS : getO S 736 = none)
    (H1 : Φ 17 [.agg (frC { h with tag := tgAt bs i })] [] = outP pl p) (H2 : Φ 34 [.l false (byL p), .l false (byL bs)] [] = some (.b (decide (p = bs)), [])) :
    m18b0 Φ N [] g (sl11x r (byL bs) true i n) (ob11x S h) = cond (pl && ((((i + min (bs.length - i) 32 : Nat) : Int) == (bs.length : Int)) && decide (p = bs))) (some (.tup [.agg (frC { h with tag := tgAt bs i }), .i .i64 0], [])) (errR 3) := by
  have hl := byL_len bs
  have hp := byL_len p
  have hu := uz32
  have lt : ¬ n < n := Int.lt_irrefl n
  have hc := cpy_tag ((80, fbox zeF) :: (104, fbox h) :: S) h hz (bs.drop i) rfl
  have hs := fun ob => slc_at ob (byL bs) i (allW_by bs) (by omega)
  have hd := drop_by bs i
  rw [List.length_drop] at hc
  have ht : { h with tag := (bs.drop i).take 32 ++ z32.drop (min (bs.length - i) 32) } = ({ h with tag := tgAt bs i } : Fra) := rfl
  rw [ht] at hc
  rw [hd] at hs
  unfold outP at H1
  unfold errR
  have wa : IntKind.i64.wrap ((i : Int) + ((min (bs.length - i) 32 : Nat) : Int)) = ((i + min (bs.length - i) 32 : Nat) : Int) := by rw [IntKind.wrap_i64]; omega
  generalize hm : ((min (bs.length - i) 32 : Nat) : Int) = mm at *
  generalize ((i + min (bs.length - i) 32 : Nat) : Int) = at' at *
  rw [← hl]
  rw [← hp] at H1
  have tp : List.take (byL p).length (byL p) = byL p := List.take_length
  generalize decide (p = bs) = e at *
  generalize byL p = c at *
  generalize byL (bs.drop i) = b' at *
  generalize byL bs = b at *
  obtain ⟨a1, a2, a3, a4, a5, a6, a7, a8, a9⟩ := h
  simp only at hz
  subst hz
  simp only [sl11x, ob11x, fbox, frC, zeF, box, row] at *
  generalize uL (tgAt bs i) = q at *
  generalize uL z32 = z at *
  have hu' := hu.symm
  clear ht hm hd
  cases pl
  · simp only [cond_false] at H1
    simp -implicitDefEqProofs (maxSteps := 1000000) (disch := first | omega | rfl) [m18b0, hS, hu', H1, hc, hs, wa, lt, -List.reduceReplicate, KVl, KF, KS, getS, getO, gS, zipN, dropW, takeW, wds, stvs, sea, seaL, refs, refsL, refsEls, refsO, isPureEls, isPures, isPure, noExt, noExts, noExtEls, cellsL, ren, renL, renEls, keepO, keepS, keysO, refsS, refsOB, headC, setS, boxO, row, putW, putB, putB1, eNl, newOs, frz, renO, noExtO, zps, zp, two32, w64, -getElem?_pos, k_cnt, k_cnt0]
  · simp only [cond_true] at H1
    by_cases ha : at' = (b.length : Int)
    · have ha1 : (at' == (b.length : Int)) = true := by simp [ha]
      have ha2 : (at' != (b.length : Int)) = false := by simp [ha]
      cases e <;> simp -implicitDefEqProofs (maxSteps := 1000000) (disch := first | omega | rfl) [m18b0, hS, hu', H1, H2, hc, hs, wa, ha1, ha2, tp, lt, -List.reduceReplicate, KVl, KF, KS, getS, getO, gS, zipN, dropW, takeW, wds, stvs, sea, seaL, refs, refsL, refsEls, refsO, isPureEls, isPures, isPure, noExt, noExts, noExtEls, cellsL, ren, renL, renEls, keepO, keepS, keysO, refsS, refsOB, headC, setS, boxO, row, putW, putB, putB1, eNl, newOs, frz, renO, noExtO, zps, zp, two32, w64, -getElem?_pos, k_cnt, k_cnt0]
    · have ha1 : (at' == (b.length : Int)) = false := by simp [ha]
      have ha2 : (at' != (b.length : Int)) = true := by simp [ha]
      simp -implicitDefEqProofs (maxSteps := 1000000) (disch := first | omega | rfl) [m18b0, hS, hu', H1, hc, hs, wa, ha1, ha2, tp, lt, -List.reduceReplicate, KVl, KF, KS, getS, getO, gS, zipN, dropW, takeW, wds, stvs, sea, seaL, refs, refsL, refsEls, refsO, isPureEls, isPures, isPure, noExt, noExts, noExtEls, cellsL, ren, renL, renEls, keepO, keepS, keysO, refsS, refsOB, headC, setS, boxO, row, putW, putB, putB1, eNl, newOs, frz, renO, noExtO, zps, zp, two32, w64, -getElem?_pos, k_cnt, k_cnt0]
end
end Go.Proofs.YtgpggpbibdnfhaaDoor
