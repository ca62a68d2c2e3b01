/- Plain lemmas, part 2. -/
import Derived.Test.YtcimkkcajkmfoaaDoorPgA
set_option linter.all false
set_option linter.unusedSimpArgs false
set_option linter.unusedVariables false
namespace Go.Proofs.YtcimkkcajkmfoaaDoor
open Go
section
theorem L17 (N d : Nat) (ns xs : List Int) (L : Int) : sem tab N (d + 1) 95 [hashV ns false xs L] [] = some (.b (mayB xs.length L), []) := by
  rw [← L23 N d ns xs L, sem_succ tab N d 95 m95 rfl, sem_succ tab N d 84 m84 rfl]
  rfl
theorem L22 (N d : Nat) : sem tab N (d + 1) 90 [] [] = some (hashV nFirst true [] 0, []) := by
  rw [sem_succ tab N d 90 m90 rfl]
  rfl
def rowv (t : List (List PV)) (v : Nat) : Obj' := { els := t, w := 1, pu := true, g := true, cap := none, ver := v, fro := false }
def sl20 (v i n : Nat) : SL := [(4, .p 96 0 0 0 none), (6, .sl 248 v i n), (7, .p 120 0 0 0 none)]
def ob20 (hc : List PV) (r : List PV) (L : Int) (t : List (List PV)) (v : Nat) : OB := [(96, box hc 10), (120, box [.blob 8 r, .e true, .i .i64 L] 10), (248, rowv t v)]
set_option maxHeartbeats 4000000 in
theorem step20 (M d : Nat) (g : SL → OB → Option R) (rs T : List Int) (L : Int) (z8 : List PV) (v i n : Nat) (hr : rs.length = 8) (hn : 64 ≤ n) (hi : i + n = T.length) (hb : ∀ n ∈ T, 0 ≤ n ∧ n ≤ 255) :
    m89b0 (sem tab (M + 65) (d + 3)) (M + 65) [] g (sl20 v i n) (ob20 [.blob 8 z8, .e true, .i .i64 0] (wL rs) L (byL T) v) = g (sl20 v (i + 64) (n - 64)) (ob20 [.blob 8 z8, .e true, .i .i64 0] (wL (rnd rs ((T.drop i).take 64))) L (byL T) v) := by
  have h40 := L40 M d rs ((T.drop i).take 64) hr (by simp; omega) (fun x hx => hb x (List.mem_of_mem_drop (List.mem_of_mem_take hx)))
  have hl := byL_len T
  have e : List.take 64 (List.drop i (byL T)) = byL ((T.drop i).take 64) := by rw [byL_drop, byL_take]
  rw [← e] at h40
  rw [← hl] at hi
  generalize byL T = t at *
  generalize wL (rnd rs ((T.drop i).take 64)) = r2 at *
  generalize wL rs = r at *
  have c1 : 64 ≤ (n : Int) := by omega
  have c2 : i + 64 ≤ t.length := by omega
  have c3 : (64 : Int) ≤ n := by omega
  have c4 : i + n ≤ t.length := by omega
  have c5 : (i : Int) + 64 ≤ t.length := by omega
  have c6 : (i : Int) + n ≤ t.length := by omega
  simp -implicitDefEqProofs (maxSteps := 1000000) (disch := first | omega | rfl) [m89b0, sl20, ob20, box, rowv, hn, c1, c2, c3, c4, c5, c6, h40, KS, getS, getO, gS, zipN, dropW, takeW, wds, stvs, sea, seaL, refs, refsL, refsEls, refsO, isPureEls, isPures, isPure, noExt, noExts, noExtEls, cellsL, ren, renL, renEls, keepO, keepS, keysO, refsS, refsOB, cntN, headC, setS, boxO, row, putW, putB, putB1, eNl, newOs, frz, renO, noExtO, zps, zp, two32, w64, -getElem?_pos]
set_option maxHeartbeats 4000000 in
theorem end20 (N d : Nat) (g : SL → OB → Option R) (r : List PV) (t : List (List PV)) (L : Int) (z8 : List PV) (v i n : Nat) (hn : n < 64) (hi : i + n = t.length) :
    m89b0 (sem tab N d) N [] g (sl20 v i n) (ob20 [.blob 8 z8, .e true, .i .i64 0] r L t v) = some (.agg [.blob 8 r, .l true (t.drop i), .i .i64 L], []) := by
  have c1 : ¬ (64 ≤ (n : Int)) := by omega
  have c2 : ¬ (64 ≤ n) := by omega
  have c4 : i + n ≤ t.length := by omega
  have ht : List.take n (List.drop i t) = List.drop i t := List.take_of_length_le (by simp; omega)
  simp -implicitDefEqProofs (maxSteps := 1000000) (disch := first | omega | rfl) [m89b0, sl20, ob20, box, rowv, hn, c1, c2, c4, ht, KS, getS, getO, gS, zipN, dropW, takeW, wds, stvs, sea, seaL, refs, refsL, refsEls, refsO, isPureEls, isPures, isPure, noExt, noExts, noExtEls, cellsL, ren, renL, renEls, keepO, keepS, keysO, refsS, refsOB, cntN, headC, setS, boxO, row, putW, putB, putB1, eNl, newOs, frz, renO, noExtO, zps, zp, two32, w64, -getElem?_pos]
theorem loop20 (T : List Int) (L : Int) (z8 : List PV) (v : Nat) (hb : ∀ n ∈ T, 0 ≤ n ∧ n ≤ 255) : ∀ (j i : Nat) (rs : List Int) (M d M' : Nat), i ≤ T.length → T.length - i ≤ 64 * j → rs.length = 8 →
    loopC (m89b0 (sem tab (M + 65) (d + 3)) (M + 65) []) (M' + 1 + j) (sl20 v i (T.length - i)) (ob20 [.blob 8 z8, .e true, .i .i64 0] (wL rs) L (byL T) v) = some (hashV (rounds rs (T.drop i)).1 true (rounds rs (T.drop i)).2 L, []) := by
  intro j
  induction j with
  | zero =>
    intro i rs M d M' hi hj hr
    rw [Nat.add_zero, k_loop, rounds_short (by simp; omega), end20 _ _ _ _ _ _ _ _ _ _ (by omega) (by rw [byL_len]; omega), byL_drop]
    rfl
  | succ j ih =>
    intro i rs M d M' hi hj hr
    rw [show M' + 1 + (j + 1) = (M' + 1 + j) + 1 by omega, k_loop]
    by_cases h : T.length - i < 64
    · rw [rounds_short (by simp; omega), end20 _ _ _ _ _ _ _ _ _ _ (by omega) (by rw [byL_len]; omega), byL_drop]
      rfl
    · rw [step20 M d _ rs T L z8 v i _ hr (by omega) (by omega) hb, rounds_long (by simp; omega), List.drop_drop, show T.length - i - 64 = T.length - (i + 64) by omega]
      exact ih (i + 64) _ M d M' (by omega) (by omega) (rnd_len _ _ hr)
end
section
set_option maxHeartbeats 8000000 in
/-- What is added, in the document. -/
theorem L20 (M d : Nat) (ns xs ys : List Int) (L : Int) (hn : ns.length = 8) (hm : mayB xs.length L = true) (hL : (ys.length : Int) ≤ 1048576 - L) (h : xs.length + ys.length ≤ 57600)
    (hbx : ∀ n ∈ xs, 0 ≤ n ∧ n ≤ 255) (hby : ∀ n ∈ ys, 0 ≤ n ∧ n ≤ 255) :
    sem tab (M + 1000) (d + 4) 89 [hashV ns false xs L, .l false (byL ys)] [] = some (hashV (rounds ns (xs ++ ys)).1 true (rounds ns (xs ++ ys)).2 (L + ys.length), []) := by
  rw [sem_succ tab (M + 1000) (d + 3) 89 m89 rfl]
  have h17 := L17 (M + 1000) (d + 2) ns xs L
  rw [hm] at h17
  have hb : ∀ n ∈ xs ++ ys, 0 ≤ n ∧ n ≤ 255 := fun n hn => by
    rcases List.mem_append.1 hn with h | h
    · exact hbx n h
    · exact hby n h
  have k0 := loop20 (xs ++ ys) (L + ys.length) (List.replicate 8 (.i .u32 0)) 0 hb 900 0 ns (M + 935) d (M + 99) (by omega) (by simp; omega) hn
  have k1 := loop20 (xs ++ ys) (L + ys.length) (List.replicate 8 (.i .u32 0)) 1 hb 900 0 ns (M + 935) d (M + 99) (by omega) (by simp; omega) hn
  rw [List.drop_zero, Nat.sub_zero, List.length_append, ← byL_app] at k0 k1
  have hL0 : 0 ≤ L := by simp [mayB] at hm; exact hm.1
  have hx := byL_len xs
  have hy := byL_len ys
  have fx := flat_by xs
  have wx := allW_by xs
  have fy := flat_by ys
  have wy := allW_by ys
  simp only [hashV_wL] at h17 k0 k1 ⊢
  rw [← hx, ← hy] at h k0 k1
  rw [← hy] at hL ⊢
  generalize byL (rounds ns (xs ++ ys)).2 = q at *
  generalize wL (rounds ns (xs ++ ys)).1 = r2 at *
  generalize byL xs = a at *
  generalize byL ys = b at *
  generalize wL ns = r at *
  generalize hz : List.replicate 8 (PV.i IntKind.u32 0) = zz at *
  have n1 : ¬ ((b.length : Int) > 1048576 - L) := by omega
  have n2 : ¬ (1048576 - L < (b.length : Int)) := by omega
  have p1 : a.length ≤ 4294967296 := by omega
  have p2 : a.length + b.length ≤ 4294967296 := by omega
  have ht : List.take a.length a = a := List.take_length
  by_cases hb : b = []
  · subst hb
    simp only [sl20, ob20, box, rowv, List.append_nil, List.length_nil, Nat.add_zero, Nat.add_assoc] at k0
    rw [show ((0 : Nat) : Int) = 0 from rfl] at k0
    simp only [Int.add_zero] at k0
    have n3 : ¬ (1048576 - L < 0) := by simp only [List.length_nil] at n2; omega
    simp -implicitDefEqProofs (maxSteps := 1000000) (disch := first | omega | rfl) [m89, hz, h17, n1, n2, n3, fx, wx, p1, ht, allW, flatEls, KS, getS, getO, gS, zipN, dropW, takeW, wds, stvs, sea, seaL, refs, refsL, refsEls, refsO, isPureEls, isPures, isPure, noExt, noExts, noExtEls, cellsL, ren, renL, renEls, keepO, keepS, keysO, refsS, refsOB, cntN, headC, setS, boxO, row, putW, putB, putB1, eNl, newOs, frz, renO, noExtO, zps, zp, two32, w64, -getElem?_pos]
    exact k0
  · have p3 : ¬ (a.length + b.length ≤ a.length) := by
      have := List.length_pos_iff.2 hb
      omega
    simp only [sl20, ob20, box, rowv, Nat.add_assoc] at k1
    simp -implicitDefEqProofs (maxSteps := 1000000) (disch := first | omega | rfl) [m89, hz, h17, n1, n2, fx, wx, fy, wy, p1, p2, p3, hb, ht, KS, getS, getO, gS, zipN, dropW, takeW, wds, stvs, sea, seaL, refs, refsL, refsEls, refsO, isPureEls, isPures, isPure, noExt, noExts, noExtEls, cellsL, ren, renL, renEls, keepO, keepS, keysO, refsS, refsOB, cntN, headC, setS, boxO, row, putW, putB, putB1, eNl, newOs, frz, renO, noExtO, zps, zp, two32, w64, -getElem?_pos]
    exact k1
end
section
def sl25 (n : Nat) : SL := [(1, .p 72 0 0 0 none), (2, .p 80 0 0 0 none), (4, .sl 103 0 0 n)]
def ob25 (hc z : List PV) (t : List (List PV)) : OB := [(103, row t 1 true), (72, box hc 10), (80, box [.blob 32 z] 32)]
def sl25r (i n : Nat) : SL := [(2, .p 80 0 0 0 none), (4, .sl 103 1 i n), (6, .p 112 0 0 0 none)]
def ob25r (r z : List PV) (t : List (List PV)) : OB := [(80, box [.blob 32 z] 32), (112, box [.blob 8 r] 8), (103, rowv t 1)]
def sl25a (k : Int) : SL := [(2, .p 80 0 0 0 none), (6, .p 112 0 0 0 none), (7, .p 120 0 0 0 none), (8, .i .i64 k)]
def ob25a (r z o : List PV) : OB := [(80, box [.blob 32 z] 32), (112, box [.blob 8 r] 8), (120, box [.blob 32 o] 32)]
set_option maxHeartbeats 4000000 in
theorem step25c (N d : Nat) (g : SL → OB → Option R) (r z : List PV) (b t : List (List PV)) (L : Int) (h : ((t.length : Int).tmod 64) ≠ 56) (hl : t.length ≤ 4294967295) :
    m88b2 (sem tab N d) N [] g (sl25 t.length) (ob25 [.blob 8 r, .l false b, .i .i64 L] z t) = g (sl25 (t.length + 1)) (ob25 [.blob 8 r, .l false b, .i .i64 L] z (t ++ [[.i .u8 0]])) := by
  have h1 : ((t.length : Int).tmod 64 == 56) = false := by simpa using h
  have h4 : ((t.length : Int).tmod 64 != 56) = true := by simpa using h
  have h3 : ¬ (t.length + 1 ≤ t.length) := by omega
  have h2 : t.length + 1 ≤ 4294967296 := by omega
  have ht : List.take t.length t = t := List.take_length
  simp -implicitDefEqProofs (maxSteps := 1000000) (disch := first | omega | rfl) [m88b2, sl25, ob25, box, h, h1, h2, h3, h4, ht, KS, getS, getO, gS, zipN, dropW, takeW, wds, stvs, sea, seaL, refs, refsL, refsEls, refsO, isPureEls, isPures, isPure, noExt, noExts, noExtEls, cellsL, ren, renL, renEls, keepO, keepS, keysO, refsS, refsOB, cntN, headC, setS, boxO, row, putW, putB, putB1, eNl, newOs, frz, renO, noExtO, zps, zp, two32, w64, -getElem?_pos]
def lenR (L : Int) : List Int := [0, 0, 0, 0, IntKind.u8.wrap ((8 * L).tdiv 16777216), IntKind.u8.wrap (((8 * L).tdiv 65536).tmod 256), IntKind.u8.wrap (((8 * L).tdiv 256).tmod 256), IntKind.u8.wrap ((8 * L).tmod 256)]
set_option maxHeartbeats 4000000 in
theorem mid25c (N d : Nat) (g : SL → OB → Option R) (r z : List PV) (b t : List (List PV)) (L : Int) (hL : 0 ≤ L ∧ L ≤ 1048576) (h : ((t.length : Int).tmod 64) = 56) (hl : t.length ≤ 4294967280) :
    m88b2 (sem tab N d) N [] g (sl25 t.length) (ob25 [.blob 8 r, .l false b, .i .i64 L] z t) = loopC (m88b1 (sem tab N d) N []) N (sl25r 0 (t.length + 8)) (ob25r r z (t ++ byL (lenR L))) := by
  have h4 : ((t.length : Int).tmod 64 != 56) = false := by simpa using h
  have h2 : t.length + 8 ≤ 4294967296 := by omega
  have h3 : ¬ (t.length + 8 ≤ t.length) := by omega
  have ht : List.take t.length t = t := List.take_length
  have w1 : IntKind.i64.wrap (8 * L) = 8 * L := w64 (by omega) (by omega)
  have w2 : IntKind.i64.wrap ((8 * L).tdiv 16777216) = (8 * L).tdiv 16777216 := by rw [Int.tdiv_eq_ediv_of_nonneg (by omega)]; exact w64 (by omega) (by omega)
  have w3 : IntKind.i64.wrap ((8 * L).tdiv 65536) = (8 * L).tdiv 65536 := by rw [Int.tdiv_eq_ediv_of_nonneg (by omega)]; exact w64 (by omega) (by omega)
  have w4 : IntKind.i64.wrap ((8 * L).tdiv 256) = (8 * L).tdiv 256 := by rw [Int.tdiv_eq_ediv_of_nonneg (by omega)]; exact w64 (by omega) (by omega)
  simp -implicitDefEqProofs (maxSteps := 1000000) (disch := first | omega | rfl) [m88b2, sl25, ob25, sl25r, ob25r, rowv, lenR, byL, box, h, h2, h3, h4, ht, w1, w2, w3, w4, KS, getS, getO, gS, zipN, dropW, takeW, wds, stvs, sea, seaL, refs, refsL, refsEls, refsO, isPureEls, isPures, isPure, noExt, noExts, noExtEls, cellsL, ren, renL, renEls, keepO, keepS, keysO, refsS, refsOB, cntN, headC, setS, boxO, row, putW, putB, putB1, eNl, newOs, frz, renO, noExtO, zps, zp, two32, w64, -getElem?_pos]
set_option maxHeartbeats 4000000 in
theorem step25r (M d : Nat) (g : SL → OB → Option R) (rs T : List Int) (z : List PV) (i n : Nat) (hr : rs.length = 8) (hn : 64 ≤ n) (hi : i + n = T.length) (hb : ∀ n ∈ T, 0 ≤ n ∧ n ≤ 255) :
    m88b1 (sem tab (M + 65) (d + 3)) (M + 65) [] g (sl25r i n) (ob25r (wL rs) z (byL T)) = g (sl25r (i + 64) (n - 64)) (ob25r (wL (rnd rs ((T.drop i).take 64))) z (byL T)) := by
  have h40 := L40 M d rs ((T.drop i).take 64) hr (by simp; omega) (fun x hx => hb x (List.mem_of_mem_drop (List.mem_of_mem_take hx)))
  have hl := byL_len T
  have e : List.take 64 (List.drop i (byL T)) = byL ((T.drop i).take 64) := by rw [byL_drop, byL_take]
  rw [← e] at h40
  rw [← hl] at hi
  generalize byL T = t at *
  generalize wL (rnd rs ((T.drop i).take 64)) = r2 at *
  generalize wL rs = r at *
  have c0 : 0 < n := by omega
  have c1 : 64 ≤ (n : Int) := by omega
  have c2 : i + 64 ≤ t.length := by omega
  have c3 : (0 : Int) < n := by omega
  have c4 : i + n ≤ t.length := by omega
  have c5 : (i : Int) + 64 ≤ t.length := by omega
  have c6 : (i : Int) + n ≤ t.length := by omega
  have c7 : (n : Int) > 0 := by omega
  simp -implicitDefEqProofs (maxSteps := 1000000) (disch := first | omega | rfl) [m88b1, sl25r, ob25r, box, rowv, hn, c0, c1, c2, c3, c4, c5, c6, c7, h40, KS, getS, getO, gS, zipN, dropW, takeW, wds, stvs, sea, seaL, refs, refsL, refsEls, refsO, isPureEls, isPures, isPure, noExt, noExts, noExtEls, cellsL, ren, renL, renEls, keepO, keepS, keysO, refsS, refsOB, cntN, headC, setS, boxO, row, putW, putB, putB1, eNl, newOs, frz, renO, noExtO, zps, zp, two32, w64, -getElem?_pos]
set_option maxHeartbeats 4000000 in
theorem mid25r (N d : Nat) (g : SL → OB → Option R) (r z : List PV) (t : List (List PV)) (i : Nat) :
    m88b1 (sem tab N d) N [] g (sl25r i 0) (ob25r r z t) = loopC (m88b0 (sem tab N d) N []) N (sl25a 0) (ob25a r z (List.replicate 32 (.i .u8 0))) := by
  generalize hz : List.replicate 32 (PV.i IntKind.u8 0) = zz at *
  simp -implicitDefEqProofs (maxSteps := 1000000) (disch := first | omega | rfl) [m88b1, sl25r, ob25r, sl25a, ob25a, hz, box, rowv, KS, getS, getO, gS, zipN, dropW, takeW, wds, stvs, sea, seaL, refs, refsL, refsEls, refsO, isPureEls, isPures, isPure, noExt, noExts, noExtEls, cellsL, ren, renL, renEls, keepO, keepS, keysO, refsS, refsOB, cntN, headC, setS, boxO, row, putW, putB, putB1, eNl, newOs, frz, renO, noExtO, zps, zp, two32, w64, -getElem?_pos]
theorem loop25r (T : List Int) (z : List PV) (hb : ∀ n ∈ T, 0 ≤ n ∧ n ≤ 255) : ∀ (j i : Nat) (rs : List Int) (M d M' : Nat), i + 64 * j = T.length → rs.length = 8 →
    loopC (m88b1 (sem tab (M + 65) (d + 3)) (M + 65) []) (M' + 1 + j) (sl25r i (64 * j)) (ob25r (wL rs) z (byL T)) = loopC (m88b0 (sem tab (M + 65) (d + 3)) (M + 65) []) (M + 65) (sl25a 0) (ob25a (wL (rounds rs (T.drop i)).1) z (List.replicate 32 (.i .u8 0))) := by
  intro j
  induction j with
  | zero =>
    intro i rs M d M' hi hr
    rw [Nat.add_zero, k_loop, rounds_short (by simp; omega), Nat.mul_zero, mid25r]
  | succ j ih =>
    intro i rs M d M' hi hr
    rw [show M' + 1 + (j + 1) = (M' + 1 + j) + 1 by omega, k_loop, step25r M d _ rs T z i (64 * (j + 1)) hr (by omega) (by omega) hb, rounds_long (by simp; omega), List.drop_drop, show 64 * (j + 1) - 64 = 64 * j by omega]
    exact ih (i + 64) _ M d M' (by omega) (rnd_len _ _ hr)
end
section
def lenV (L : Int) : Int := IntKind.u64.wrap (IntKind.u64.wrap L * 8)
def lenB (v : Int) (k : Nat) : Int := IntKind.u8.wrap (v.fdiv (2 ^ min (56 - 8 * (k : Int)).toNat IntKind.u64.bits))
set_option maxHeartbeats 4000000 in
theorem mid24e (r z : List PV) (b t : List (List PV)) (L : Int) (h : ((t.length : Int).tmod 64) = 56) :
    ∀ (N d : Nat) (g : SL → OB → Option R), m63b2 (sem tab N d) N [] g (sl24 t.length) (ob24 [.blob 8 r, .l false b, .i .i64 L] z t) = loopC (m63b1 (sem tab N d) N []) N (sl24b t.length (lenV L) 0) (ob24 [.blob 8 r, .l false b, .i .i64 L] z t) := by
  have ht : List.take t.length t = t := List.take_length
  intro N d g
  simp -implicitDefEqProofs (maxSteps := 1000000) (disch := first | omega | rfl) [m63b2, sl24, ob24, sl24b, box, h, ht, KS, getS, getO, gS, zipN, dropW, takeW, wds, stvs, sea, seaL, refs, refsL, refsEls, refsO, isPureEls, isPures, isPure, noExt, noExts, noExtEls, cellsL, ren, renL, renEls, keepO, keepS, keysO, refsS, refsOB, cntN, headC, setS, boxO, row, putW, putB, putB1, eNl, newOs, frz, renO, noExtO, zps, zp, two32, w64, -getElem?_pos]
  rfl
set_option maxHeartbeats 4000000 in
theorem step24e (r z : List PV) (b t : List (List PV)) (L v : Int) (k : Nat) (hk : k < 8) (hl : t.length ≤ 4294967295) :
    ∀ (N d : Nat) (g : SL → OB → Option R), m63b1 (sem tab N d) N [] g (sl24b t.length v k) (ob24 [.blob 8 r, .l false b, .i .i64 L] z t) = g (sl24b (t.length + 1) v (k + 1 : Nat)) (ob24 [.blob 8 r, .l false b, .i .i64 L] z (t ++ [[.i .u8 (lenB v k)]])) := by
  have c1 : (k : Int) < 8 := by omega
  have c2 : ¬ (56 - 8 * (k : Int) < 0) := by omega
  have h2 : t.length + 1 ≤ 4294967296 := by omega
  have h3 : ¬ (t.length + 1 ≤ t.length) := by omega
  have ht : List.take t.length t = t := List.take_length
  have w1 : IntKind.i64.wrap (56 - 8 * (k : Int)) = 56 - 8 * (k : Int) := w64 (by omega) (by omega)
  intro N d g
  simp -implicitDefEqProofs (maxSteps := 1000000) (disch := first | omega | rfl) [m63b1, sl24b, ob24, box, hk, c1, c2, w1, h2, h3, ht, KS, getS, getO, gS, zipN, dropW, takeW, wds, stvs, sea, seaL, refs, refsL, refsEls, refsO, isPureEls, isPures, isPure, noExt, noExts, noExtEls, cellsL, ren, renL, renEls, keepO, keepS, keysO, refsS, refsOB, cntN, headC, setS, boxO, row, putW, putB, putB1, eNl, newOs, frz, renO, noExtO, zps, zp, two32, w64, -getElem?_pos]
  rfl
theorem lenB_eq (L : Int) (hL : 0 ≤ L ∧ L ≤ 1048576) : lenR L = [lenB (lenV L) 0, lenB (lenV L) 1, lenB (lenV L) 2, lenB (lenV L) 3, lenB (lenV L) 4, lenB (lenV L) 5, lenB (lenV L) 6, lenB (lenV L) 7] := by
  have hv : lenV L = 8 * L := by
    unfold lenV
    simp only [IntKind.wrap_u64]; omega
  have e : ∀ k : Nat, k < 8 → lenB (8 * L) k = (8 * L) / (2 ^ (56 - 8 * k)) % 256 := by
    intro k hk
    unfold lenB
    rw [Int.fdiv_eq_ediv_of_nonneg _ (Int.le_of_lt (Int.pow_pos (by omega))), IntKind.wrap_u8, show (56 - 8 * (k : Int)).toNat = 56 - 8 * k by omega, show min (56 - 8 * k) IntKind.u64.bits = 56 - 8 * k from Nat.min_eq_left (by show 56 - 8 * k ≤ 64; omega)]
  rw [hv, e 0 (by omega), e 1 (by omega), e 2 (by omega), e 3 (by omega), e 4 (by omega), e 5 (by omega), e 6 (by omega), e 7 (by omega)]
  simp only [lenR, Int.tdiv_eq_ediv_of_nonneg (show (0 : Int) ≤ 8 * L by omega), IntKind.wrap_u8]
  rw [Int.tmod_eq_emod_of_nonneg (by omega), Int.tmod_eq_emod_of_nonneg (by omega), Int.tmod_eq_emod_of_nonneg (by omega)]
  simp only [List.cons.injEq, and_true]
  refine ⟨?_, ?_, ?_, ?_, ?_, ?_, ?_, ?_⟩ <;> omega
set_option maxHeartbeats 4000000 in
/-- Eight bytes of length behind; then all is rounded. -/
theorem run24e (M d M' : Nat) (rs ts : List Int) (b : List (List PV)) (L : Int) (z : List PV) (hL : 0 ≤ L ∧ L ≤ 1048576) (hr : rs.length = 8) (hl : ts.length ≤ 57500) :
    loopC (m63b1 (sem tab (M + 1000) (d + 5)) (M + 1000) []) (M' + 9) (sl24b ts.length (lenV L) 0) (ob24 [.blob 8 (wL rs), .l false b, .i .i64 L] z (byL ts)) = loopC (m63b0 (sem tab (M + 1000) (d + 5)) (M + 1000) []) (M + 1000) (sl24a (wL (rounds rs (ts ++ lenR L)).1) 0) (ob24a z (List.replicate 32 (.i .u8 0))) := by
  have st : ∀ (k : Nat) (us : List Int) (g : SL → OB → Option R), k < 8 → us.length ≤ 57600 → m63b1 (sem tab (M + 1000) (d + 5)) (M + 1000) [] g (sl24b us.length (lenV L) (k : Nat)) (ob24 [.blob 8 (wL rs), .l false b, .i .i64 L] z (byL us)) = g (sl24b (us ++ [lenB (lenV L) k]).length (lenV L) (k + 1 : Nat)) (ob24 [.blob 8 (wL rs), .l false b, .i .i64 L] z (byL (us ++ [lenB (lenV L) k]))) := by
    intro k us g hk hu
    have h := step24e (wL rs) z b (byL us) L (lenV L) k hk (by rw [byL_len]; omega) (M + 1000) (d + 5) g
    rw [byL_len, byL_app1] at h
    rw [List.length_append]; exact h
  have e : (0 : Int) = ((0 : Nat) : Int) := rfl
  rw [e, show M' + 9 = (M' + 8) + 1 from rfl, k_loop, st 0 _ _ (by omega) (by omega)]
  rw [k_loop, st (0 + 1) _ _ (by omega) (by simp; omega)]
  rw [k_loop, st (0 + 1 + 1) _ _ (by omega) (by simp; omega)]
  rw [k_loop, st (0 + 1 + 1 + 1) _ _ (by omega) (by simp; omega)]
  rw [k_loop, st (0 + 1 + 1 + 1 + 1) _ _ (by omega) (by simp; omega)]
  rw [k_loop, st (0 + 1 + 1 + 1 + 1 + 1) _ _ (by omega) (by simp; omega)]
  rw [k_loop, st (0 + 1 + 1 + 1 + 1 + 1 + 1) _ _ (by omega) (by simp; omega)]
  rw [k_loop, st (0 + 1 + 1 + 1 + 1 + 1 + 1 + 1) _ _ (by omega) (by simp; omega)]
  rw [k_loop]
  have h := mid24b M d (loopC (m63b1 (sem tab (M + 1000) (d + 5)) (M + 1000) []) M') rs (ts ++ lenR L) b L (lenV L) z hr (by rw [List.length_append, show (lenR L).length = 8 from rfl]; omega)
  rw [lenB_eq L hL] at h ⊢
  simp only [List.append_assoc, List.cons_append, List.nil_append, Nat.zero_add, Nat.reduceAdd] at h ⊢
  exact h
end
section
def oB (x : Int) (n : Nat) : Int := IntKind.u8.wrap (x.fdiv (2 ^ min n IntKind.u32.bits))
def oR0 (x : Int) : Int := IntKind.u8.wrap (x.tdiv 16777216)
def oR1 (x : Int) : Int := IntKind.u8.wrap ((x.tdiv 65536).tmod 256)
def oR2 (x : Int) : Int := IntKind.u8.wrap ((x.tdiv 256).tmod 256)
def oR3 (x : Int) : Int := IntKind.u8.wrap (x.tmod 256)
theorem oR_eq (x : Int) (h : 0 ≤ x ∧ x < 4294967296) : oR0 x = oB x 24 ∧ oR1 x = oB x 16 ∧ oR2 x = oB x 8 ∧ oR3 x = IntKind.u8.wrap x := by
  have e : ∀ n : Nat, n ≤ 32 → oB x n = x / 2 ^ n % 256 := by
    intro n hn
    unfold oB
    rw [show min n IntKind.u32.bits = n from Nat.min_eq_left hn, Int.fdiv_eq_ediv_of_nonneg _ (Int.le_of_lt (Int.pow_pos (by omega))), IntKind.wrap_u8]
  rw [e 24 (by omega), e 16 (by omega), e 8 (by omega)]
  simp only [oR0, oR1, oR2, oR3, Int.tdiv_eq_ediv_of_nonneg h.1, IntKind.wrap_u8]
  rw [Int.tmod_eq_emod_of_nonneg (by omega), Int.tmod_eq_emod_of_nonneg (by omega), Int.tmod_eq_emod_of_nonneg (by omega)]
  refine ⟨?_, ?_, ?_, ?_⟩ <;> omega
set_option maxHeartbeats 4000000 in
theorem step24o (r z o : List PV) (k : Nat) (x : Int) (hk : k < 8) (hx : r[k]? = some (.i .u32 x)) (ho : o.length = 32) :
    ∀ (N d : Nat) (g : SL → OB → Option R), m63b0 (sem tab N d) N [] g (sl24a r k) (ob24a z o) = g (sl24a r (k + 1 : Nat)) (ob24a z ((((o.set (4 * k) (.i .u8 (oB x 24))).set (4 * k + 1) (.i .u8 (oB x 16))).set (4 * k + 2) (.i .u8 (oB x 8))).set (4 * k + 3) (.i .u8 (IntKind.u8.wrap x)))) := by
  have c1 : (k : Int) < 8 := by omega
  have c3 : (0 : Int) ≤ k := by omega
  have c4 : (0 : Int) ≤ 4 * (k : Int) := by omega
  have c5 : (0 : Int) ≤ 4 * (k : Int) + 1 := by omega
  have c6 : (0 : Int) ≤ 4 * (k : Int) + 2 := by omega
  have c7 : (0 : Int) ≤ 4 * (k : Int) + 3 := by omega
  have d4 : 4 * (k : Int) < 32 := by omega
  have d5 : 4 * (k : Int) + 1 < 32 := by omega
  have d6 : 4 * (k : Int) + 2 < 32 := by omega
  have d7 : 4 * (k : Int) + 3 < 32 := by omega
  have t4 : (4 * (k : Int)).toNat = 4 * k := by omega
  have t5 : (4 * (k : Int) + 1).toNat = 4 * k + 1 := by omega
  have t6 : (4 * (k : Int) + 2).toNat = 4 * k + 2 := by omega
  have t7 : (4 * (k : Int) + 3).toNat = 4 * k + 3 := by omega
  have b4 : 4 * k < 32 := by omega
  have b5 : 4 * k + 1 < 32 := by omega
  have b6 : 4 * k + 2 < 32 := by omega
  have b7 : 4 * k + 3 < 32 := by omega
  intro N d g
  simp -implicitDefEqProofs (maxSteps := 1000000) (disch := first | omega | rfl) [m63b0, sl24a, ob24a, box, xV, hk, hx, ho, c1, c3, c4, c5, c6, c7, d4, d5, d6, d7, t4, t5, t6, t7, b4, b5, b6, b7, KS, getS, getO, gS, zipN, dropW, takeW, wds, stvs, sea, seaL, refs, refsL, refsEls, refsO, isPureEls, isPures, isPure, noExt, noExts, noExtEls, cellsL, ren, renL, renEls, keepO, keepS, keysO, refsS, refsOB, cntN, headC, setS, boxO, row, putW, putB, putB1, eNl, newOs, frz, renO, noExtO, zps, zp, two32, w64, -getElem?_pos]
  rfl
set_option maxHeartbeats 4000000 in
theorem step25o (r z o : List PV) (k : Nat) (x : Int) (hk : k < 8) (hx : r[k]? = some (.i .u32 x)) (ho : o.length = 32) (hr : 0 ≤ x ∧ x < 4294967296) :
    ∀ (N d : Nat) (g : SL → OB → Option R), m88b0 (sem tab N d) N [] g (sl25a k) (ob25a r z o) = g (sl25a (k + 1 : Nat)) (ob25a r z ((((o.set (4 * k) (.i .u8 (oR0 x))).set (4 * k + 1) (.i .u8 (oR1 x))).set (4 * k + 2) (.i .u8 (oR2 x))).set (4 * k + 3) (.i .u8 (oR3 x)))) := by
  have c1 : (k : Int) < 8 := by omega
  have c3 : (0 : Int) ≤ k := by omega
  have c4 : (0 : Int) ≤ 4 * (k : Int) := by omega
  have c5 : (0 : Int) ≤ 4 * (k : Int) + 1 := by omega
  have c6 : (0 : Int) ≤ 4 * (k : Int) + 2 := by omega
  have c7 : (0 : Int) ≤ 4 * (k : Int) + 3 := by omega
  have d4 : 4 * (k : Int) < 32 := by omega
  have d5 : 4 * (k : Int) + 1 < 32 := by omega
  have d6 : 4 * (k : Int) + 2 < 32 := by omega
  have d7 : 4 * (k : Int) + 3 < 32 := by omega
  have t4 : (4 * (k : Int)).toNat = 4 * k := by omega
  have t5 : (4 * (k : Int) + 1).toNat = 4 * k + 1 := by omega
  have t6 : (4 * (k : Int) + 2).toNat = 4 * k + 2 := by omega
  have t7 : (4 * (k : Int) + 3).toNat = 4 * k + 3 := by omega
  have b4 : 4 * k < 32 := by omega
  have b5 : 4 * k + 1 < 32 := by omega
  have b6 : 4 * k + 2 < 32 := by omega
  have b7 : 4 * k + 3 < 32 := by omega
  have w2 : IntKind.u32.wrap (x.tdiv 16777216) = x.tdiv 16777216 := by rw [Int.tdiv_eq_ediv_of_nonneg hr.1]; exact w32 (by omega) (by omega)
  have w3 : IntKind.u32.wrap (x.tdiv 65536) = x.tdiv 65536 := by rw [Int.tdiv_eq_ediv_of_nonneg hr.1]; exact w32 (by omega) (by omega)
  have w4 : IntKind.u32.wrap (x.tdiv 256) = x.tdiv 256 := by rw [Int.tdiv_eq_ediv_of_nonneg hr.1]; exact w32 (by omega) (by omega)
  intro N d g
  simp -implicitDefEqProofs (maxSteps := 1000000) (disch := first | omega | rfl) [m88b0, sl25a, ob25a, box, oR0, oR1, oR2, oR3, hk, hx, ho, c1, c3, c4, c5, c6, c7, d4, d5, d6, d7, t4, t5, t6, t7, b4, b5, b6, b7, w2, w3, w4, KS, getS, getO, gS, zipN, dropW, takeW, wds, stvs, sea, seaL, refs, refsL, refsEls, refsO, isPureEls, isPures, isPure, noExt, noExts, noExtEls, cellsL, ren, renL, renEls, keepO, keepS, keysO, refsS, refsOB, cntN, headC, setS, boxO, row, putW, putB, putB1, eNl, newOs, frz, renO, noExtO, zps, zp, two32, w64, -getElem?_pos]
set_option maxHeartbeats 4000000 in
theorem end25a (N d : Nat) (g : SL → OB → Option R) (r z o : List PV) : m88b0 (sem tab N d) N [] g (sl25a 8) (ob25a r z o) = some (.agg [.blob 32 o], []) := by
  simp -implicitDefEqProofs (maxSteps := 1000000) (disch := first | omega | rfl) [m88b0, sl25a, ob25a, box, KS, getS, getO, gS, zipN, dropW, takeW, wds, stvs, sea, seaL, refs, refsL, refsEls, refsO, isPureEls, isPures, isPure, noExt, noExts, noExtEls, cellsL, ren, renL, renEls, keepO, keepS, keysO, refsS, refsOB, cntN, headC, setS, boxO, row, putW, putB, putB1, eNl, newOs, frz, renO, noExtO, zps, zp, two32, w64, -getElem?_pos]
theorem loopJ24 (rs : List Int) (hr : rs.length = 8) (hb : ∀ y ∈ rs, 0 ≤ y ∧ y < 4294967296) (z z' : List PV) : ∀ (n k : Nat) (o : List Int), k + n = 8 → o.length = 32 → (∀ y ∈ o, 0 ≤ y ∧ y ≤ 255) → ∃ o' : List Int, o'.length = 32 ∧ (∀ y ∈ o', 0 ≤ y ∧ y ≤ 255) ∧
    (∀ N d M : Nat, loopC (m63b0 (sem tab N d) N []) (M + 1 + n) (sl24a (wL rs) k) (ob24a z (uL o)) = some (.agg [.blob 32 (uL o')], [])) ∧
    ∀ N d M : Nat, loopC (m88b0 (sem tab N d) N []) (M + 1 + n) (sl25a k) (ob25a (wL rs) z' (uL o)) = some (.agg [.blob 32 (uL o')], []) := by
  intro n
  induction n with
  | zero =>
    intro k o hk ho hor
    have : k = 8 := by omega
    subst this
    exact ⟨o, ho, hor, fun N d M => by rw [Nat.add_zero, k_loop]; exact end24a N d _ _ _ _, fun N d M => by rw [Nat.add_zero, k_loop]; exact end25a N d _ _ _ _⟩
  | succ n ih =>
    intro k o hk ho hor
    have hk8 : k < rs.length := by omega
    have hx : (wL rs)[k]? = some (.i .u32 rs[k]) := by rw [wL_get, List.getElem?_eq_getElem hk8]; rfl
    have hrg := hb _ (List.getElem_mem hk8)
    have h1 := step24o (wL rs) z (uL o) k rs[k] (by omega) hx (by rw [uL_len]; exact ho)
    have h2 := step25o (wL rs) z' (uL o) k rs[k] (by omega) hx (by rw [uL_len]; exact ho) hrg
    obtain ⟨e0, e1, e2, e3⟩ := oR_eq rs[k] hrg
    rw [e0, e1, e2, e3] at h2
    rw [uL_set, uL_set, uL_set, uL_set] at h1 h2
    obtain ⟨o', i1, i0, i2, i3⟩ := ih (k + 1) ((((o.set (4 * k) (oB rs[k] 24)).set (4 * k + 1) (oB rs[k] 16)).set (4 * k + 2) (oB rs[k] 8)).set (4 * k + 3) (IntKind.u8.wrap rs[k])) (by omega) (by simpa using ho) (fun y hy => by
      have w8r : ∀ x : Int, 0 ≤ IntKind.u8.wrap x ∧ IntKind.u8.wrap x ≤ 255 := fun x => by rw [IntKind.wrap_u8]; omega
      rcases List.mem_or_eq_of_mem_set hy with hy | rfl
      · rcases List.mem_or_eq_of_mem_set hy with hy | rfl
        · rcases List.mem_or_eq_of_mem_set hy with hy | rfl
          · rcases List.mem_or_eq_of_mem_set hy with hy | rfl
            · exact hor y hy
            · exact w8r _
          · exact w8r _
        · exact w8r _
      · exact w8r _)
    refine ⟨o', i1, i0, fun N d M => ?_, fun N d M => ?_⟩
    · rw [show M + 1 + (n + 1) = (M + 1 + n) + 1 by omega, k_loop, h1]
      exact i2 N d M
    · rw [show M + 1 + (n + 1) = (M + 1 + n) + 1 by omega, k_loop, h2]
      exact i3 N d M
end
section
theorem z24c (rs : List Int) (b : List (List PV)) (L : Int) (z : List PV) : ∀ (n : Nat) (ts : List Int), (ts.length + n) % 64 = 56 → n < 64 → ts.length + n ≤ 57500 → ∀ M d M' : Nat, loopC (m63b2 (sem tab (M + 1000) (d + 5)) (M + 1000) []) (M' + 1 + n) (sl24 ts.length) (ob24 [.blob 8 (wL rs), .l false b, .i .i64 L] z (byL ts)) = loopC (m63b1 (sem tab (M + 1000) (d + 5)) (M + 1000) []) (M + 1000) (sl24b (ts ++ List.replicate n 0).length (lenV L) 0) (ob24 [.blob 8 (wL rs), .l false b, .i .i64 L] z (byL (ts ++ List.replicate n 0))) := by
  intro n
  induction n with
  | zero =>
    intro ts h _ hl M d M'
    have htm : ((ts.length : Int).tmod 64) = 56 := by
      rw [Int.tmod_eq_emod_of_nonneg (by omega)]; omega
    have hv := mid24e (wL rs) z b (byL ts) L (by rw [byL_len]; exact htm) (M + 1000) (d + 5) (loopC (m63b2 (sem tab (M + 1000) (d + 5)) (M + 1000) []) M')
    rw [byL_len] at hv
    rw [Nat.add_zero, k_loop, hv, List.replicate_zero, List.append_nil]
  | succ n ih =>
    intro ts h hn hl M d M'
    have htm : ((ts.length : Int).tmod 64) ≠ 56 := by
      rw [Int.tmod_eq_emod_of_nonneg (by omega)]; omega
    have hy := step24c (M + 1000) (d + 5) (loopC (m63b2 (sem tab (M + 1000) (d + 5)) (M + 1000) []) (M' + 1 + n)) (wL rs) z z b (byL ts) L (by rw [byL_len]; exact htm) (by rw [byL_len]; omega)
    rw [byL_len] at hy
    rw [show M' + 1 + (n + 1) = (M' + 1 + n) + 1 by omega, k_loop, hy, byL_app1]
    have := ih (ts ++ [0]) (by simp only [List.length_append, List.length_singleton]; omega) (by omega) (by simp only [List.length_append, List.length_singleton]; omega) M d M'
    rw [List.append_assoc, show [(0 : Int)] ++ List.replicate n 0 = List.replicate (n + 1) 0 from rfl] at this
    rw [show (ts ++ [(0 : Int)]).length = ts.length + 1 by simp] at this
    exact this
theorem z25c (rs : List Int) (b : List (List PV)) (L : Int) (z : List PV) (hL : 0 ≤ L ∧ L ≤ 1048576) : ∀ (n : Nat) (ts : List Int), (ts.length + n) % 64 = 56 → n < 64 → ts.length + n ≤ 57500 → ∀ N d M' : Nat, loopC (m88b2 (sem tab N d) N []) (M' + 1 + n) (sl25 ts.length) (ob25 [.blob 8 (wL rs), .l false b, .i .i64 L] z (byL ts)) = loopC (m88b1 (sem tab N d) N []) N (sl25r 0 ((ts ++ List.replicate n 0).length + 8)) (ob25r (wL rs) z (byL (ts ++ List.replicate n 0 ++ lenR L))) := by
  intro n
  induction n with
  | zero =>
    intro ts h _ hl N d M'
    have htm : ((ts.length : Int).tmod 64) = 56 := by
      rw [Int.tmod_eq_emod_of_nonneg (by omega)]; omega
    have hv := mid25c N d (loopC (m88b2 (sem tab N d) N []) M') (wL rs) z b (byL ts) L hL (by rw [byL_len]; exact htm) (by rw [byL_len]; omega)
    rw [byL_len, byL_app] at hv
    rw [Nat.add_zero, k_loop, hv, List.replicate_zero, List.append_nil]
  | succ n ih =>
    intro ts h hn hl N d M'
    have htm : ((ts.length : Int).tmod 64) ≠ 56 := by
      rw [Int.tmod_eq_emod_of_nonneg (by omega)]; omega
    have hy := step25c N d (loopC (m88b2 (sem tab N d) N []) (M' + 1 + n)) (wL rs) z b (byL ts) L (by rw [byL_len]; exact htm) (by rw [byL_len]; omega)
    rw [byL_len] at hy
    rw [show M' + 1 + (n + 1) = (M' + 1 + n) + 1 by omega, k_loop, hy, byL_app1]
    have := ih (ts ++ [0]) (by simp only [List.length_append, List.length_singleton]; omega) (by omega) (by simp only [List.length_append, List.length_singleton]; omega) N d M'
    rw [List.append_assoc ts, show [(0 : Int)] ++ List.replicate n 0 = List.replicate (n + 1) 0 from rfl] at this
    rw [show (ts ++ [(0 : Int)]).length = ts.length + 1 by simp] at this
    exact this
theorem lenR_range (L : Int) : ∀ n ∈ lenR L, 0 ≤ n ∧ n ≤ 255 := by
  intro n hn
  simp only [lenR, List.mem_cons, List.not_mem_nil, or_false] at hn
  rcases hn with rfl | rfl | rfl | rfl | rfl | rfl | rfl | rfl <;> first | omega | (rw [IntKind.wrap_u8]; omega)
theorem uL_inj : ∀ {a b : List Int}, uL a = uL b → a = b
  | [], [], _ => rfl
  | [], y :: b, h => by simp [uL] at h
  | x :: a, [], h => by simp [uL] at h
  | x :: a, y :: b, h => by
    simp only [uL, List.map_cons, List.cons.injEq, PV.i.injEq, true_and] at h
    rw [h.1, uL_inj h.2]
set_option maxHeartbeats 4000000 in
/-- The sum of a state, here and there. -/
theorem J24 (ns xs : List Int) (L : Int) (hn : ns.length = 8) (hb : ∀ y ∈ ns, 0 ≤ y ∧ y < 4294967296) (hx : ∀ n ∈ xs, 0 ≤ n ∧ n ≤ 255) : ∃ o : List Int, o.length = 32 ∧ (∀ y ∈ o, 0 ≤ y ∧ y ≤ 255) ∧
    (∀ M d : Nat, sem tab (M + 1000) (d + 6) 63 [hashV ns false xs L] [] = some (.agg [.blob 32 (uL o)], [])) ∧
    ∀ M d : Nat, sem tab (M + 1000) (d + 4) 88 [hashV ns false xs L] [] = some (.agg [.blob 32 (uL o)], []) := by
  by_cases hm : mayB xs.length L = true
  · obtain ⟨hL0, hL1, hx64⟩ : 0 ≤ L ∧ L ≤ 1048576 ∧ xs.length < 64 := by
      simp [mayB] at hm
      obtain ⟨h0, h1, h2⟩ := hm
      rw [Int.tmod_eq_emod_of_nonneg h0] at h2; exact ⟨h0, h1, by omega⟩
    obtain ⟨k, hk, hp⟩ := pad_of (xs ++ [128]).length
    have hT : ∀ n ∈ xs ++ [128] ++ List.replicate k 0 ++ lenR L, 0 ≤ n ∧ n ≤ 255 := by
      intro n hn
      simp only [List.mem_append, List.mem_singleton, List.mem_replicate] at hn
      rcases hn with ((h | h) | h) | h
      · exact hx n h
      · omega
      · omega
      · exact lenR_range L n h
    have hlen : (xs ++ [128] ++ List.replicate k 0 ++ lenR L).length = xs.length + 1 + k + 8 := by
      simp only [List.length_append, List.length_singleton, List.length_replicate, show (lenR L).length = 8 from rfl]
    rw [List.length_append, List.length_singleton] at hp
    obtain ⟨rl, _⟩ := rounds_len _ ns (xs ++ [128] ++ List.replicate k 0 ++ lenR L) (Nat.le_refl _) hn
    have rr := rounds_range _ ns (xs ++ [128] ++ List.replicate k 0 ++ lenR L) (Nat.le_refl _) hn hb hT
    obtain ⟨o, h1, h0, h2, h3⟩ := loopJ24 _ rl rr (List.replicate 32 (.i .u8 0)) (List.replicate 32 (.i .u8 0)) 8 0 (List.replicate 32 0) rfl (by simp) (fun y hy => by rw [(List.mem_replicate.1 hy).2]; omega)
    refine ⟨o, h1, h0, fun M d => ?_, fun M d => ?_⟩
    · have a1 := z24c ns (byL xs) L (List.replicate 32 (.i .u8 0)) k (xs ++ [128]) (by simp only [List.length_append, List.length_singleton]; omega) hk (by simp only [List.length_append, List.length_singleton]; omega) M d (M + 999 - k)
      rw [show M + 999 - k + 1 + k = (M + 991) + 9 by omega] at a1
      have a2 := run24e M d (M + 991) ns (xs ++ [128] ++ List.replicate k 0) (byL xs) L (List.replicate 32 (.i .u8 0)) ⟨hL0, hL1⟩ hn (by simp only [List.length_append, List.length_singleton, List.length_replicate]; omega)
      rw [show M + 1000 = (M + 991) + 9 by omega] at a1 a2 ⊢
      rw [a2] at a1
      have a3 := h2 ((M + 991) + 9) (d + 5) (M + 991)
      rw [show M + 991 + 1 + 8 = (M + 991) + 9 by omega, ← zero32] at a3
      have h2 := a1.trans a3
      rw [sem_succ tab (M + 991 + 9) (d + 5) 63 m63 rfl]
      have h23 := L23 (M + 991 + 9) (d + 4) ns xs L
      rw [hm] at h23
      have h39 := L39 (M + 991 + 9) (d + 4) xs (by omega)
      have hlx := byL_len xs
      rw [← byL_app1] at h2
      rw [List.length_append, ← hlx] at h2
      rw [← hlx] at h39 hx64
      simp only [hashV_wL] at h23 ⊢
      generalize byL xs = a at *
      generalize wL ns = r at *
      generalize hz : List.replicate 32 (PV.i IntKind.u8 0) = zz at *
      have ht : List.take a.length a = a := List.take_length
      have q1 : a.length + 1 ≤ 4294967296 := by omega
      have q2 : ¬ (a.length + 1 ≤ a.length) := by omega
      simp only [sl24, ob24, box, row, List.length_singleton] at h2
      simp -implicitDefEqProofs (maxSteps := 1000000) (disch := first | omega | rfl) [m63, hz, h23, h39, ht, q1, q2, KS, getS, getO, gS, zipN, dropW, takeW, wds, stvs, sea, seaL, refs, refsL, refsEls, refsO, isPureEls, isPures, isPure, noExt, noExts, noExtEls, cellsL, ren, renL, renEls, keepO, keepS, keysO, refsS, refsOB, cntN, headC, setS, boxO, row, putW, putB, putB1, eNl, newOs, frz, renO, noExtO, zps, zp, two32, w64, -getElem?_pos]
      exact h2
    · have a1 := z25c ns (byL xs) L (List.replicate 32 (.i .u8 0)) ⟨hL0, hL1⟩ k (xs ++ [128]) (by simp only [List.length_append, List.length_singleton]; omega) hk (by simp only [List.length_append, List.length_singleton]; omega) (M + 935 + 65) (d + 3) (M + 999 - k)
      rw [show M + 999 - k + 1 + k = M + 935 + 65 by omega] at a1
      have hj : (xs ++ [128] ++ List.replicate k 0).length + 8 = 64 * ((xs.length + 1 + k + 8) / 64) := by
        simp only [List.length_append, List.length_singleton, List.length_replicate]; omega
      have a2 := loop25r (xs ++ [128] ++ List.replicate k 0 ++ lenR L) (List.replicate 32 (.i .u8 0)) hT ((xs.length + 1 + k + 8) / 64) 0 ns (M + 935) d (M + 999 - (xs.length + 1 + k + 8) / 64) (by rw [hlen]; omega) hn
      rw [show M + 999 - (xs.length + 1 + k + 8) / 64 + 1 + (xs.length + 1 + k + 8) / 64 = M + 935 + 65 by omega, List.drop_zero, ← hj] at a2
      have a3 := h3 (M + 935 + 65) (d + 3) (M + 991)
      rw [show M + 991 + 1 + 8 = M + 935 + 65 by omega, ← zero32] at a3
      have h3 := (a1.trans a2).trans a3
      rw [show M + 1000 = M + 935 + 65 by omega]
      rw [sem_succ tab (M + 935 + 65) (d + 3) 88 m88 rfl]
      have h17 := L17 (M + 935 + 65) (d + 2) ns xs L
      rw [hm] at h17
      have hlx := byL_len xs
      have fx := flat_by xs
      have wx := allW_by xs
      rw [← byL_app1] at h3
      rw [List.length_append, ← hlx] at h3
      rw [← hlx] at hx64
      simp only [hashV_wL] at h17 ⊢
      generalize byL xs = a at *
      generalize wL ns = r at *
      generalize hz : List.replicate 32 (PV.i IntKind.u8 0) = zz at *
      have ht : List.take a.length a = a := List.take_length
      have q0 : a.length ≤ 4294967296 := by omega
      have q1 : a.length + 1 ≤ 4294967296 := by omega
      have q2 : ¬ (a.length + 1 ≤ a.length) := by omega
      simp only [sl25, ob25, box, row, List.length_singleton] at h3
      simp -implicitDefEqProofs (maxSteps := 1000000) (disch := first | omega | rfl) [m88, hz, h17, fx, wx, ht, q0, q1, q2, KS, getS, getO, gS, zipN, dropW, takeW, wds, stvs, sea, seaL, refs, refsL, refsEls, refsO, isPureEls, isPures, isPure, noExt, noExts, noExtEls, cellsL, ren, renL, renEls, keepO, keepS, keysO, refsS, refsOB, cntN, headC, setS, boxO, row, putW, putB, putB1, eNl, newOs, frz, renO, noExtO, zps, zp, two32, w64, -getElem?_pos]
      exact h3
  · have hm : mayB xs.length L = false := by simpa using hm
    obtain ⟨o, ho, h24⟩ := E24 ns xs L hn
    have : uL o = List.replicate 32 (.i .u8 0) := by
      have h := h24 0 0
      rw [sem_succ tab (0 + 1000) (0 + 5) 63 m63 rfl] at h
      have h23 := L23 (0 + 1000) (0 + 4) ns xs L
      rw [hm] at h23
      simp only [hashV_wL] at h23 h
      generalize byL xs = a at *
      generalize wL ns = r at *
      generalize hz : List.replicate 32 (PV.i IntKind.u8 0) = zz at *
      simp -implicitDefEqProofs (maxSteps := 1000000) (disch := first | omega | rfl) [m63, hz, h23, KS, getS, getO, gS, zipN, dropW, takeW, wds, stvs, sea, seaL, refs, refsL, refsEls, refsO, isPureEls, isPures, isPure, noExt, noExts, noExtEls, cellsL, ren, renL, renEls, keepO, keepS, keysO, refsS, refsOB, cntN, headC, setS, boxO, row, putW, putB, putB1, eNl, newOs, frz, renO, noExtO, zps, zp, two32, w64, -getElem?_pos] at h
      exact h.symm
    have ho0 : o = List.replicate 32 0 := by
      have e : uL o = uL (List.replicate 32 0) := by rw [this, zero32]
      exact uL_inj e
    refine ⟨o, ho, fun y hy => by rw [ho0] at hy; rw [(List.mem_replicate.1 hy).2]; omega, h24, fun M d => ?_⟩
    rw [this, sem_succ tab (M + 1000) (d + 3) 88 m88 rfl]
    have h17 := L17 (M + 1000) (d + 2) ns xs L
    rw [hm] at h17
    simp only [hashV_wL] at h17 ⊢
    generalize byL xs = a at *
    generalize wL ns = r at *
    generalize hz : List.replicate 32 (PV.i IntKind.u8 0) = zz at *
    simp -implicitDefEqProofs (maxSteps := 1000000) (disch := first | omega | rfl) [m88, hz, h17, KS, getS, getO, gS, zipN, dropW, takeW, wds, stvs, sea, seaL, refs, refsL, refsEls, refsO, isPureEls, isPures, isPure, noExt, noExts, noExtEls, cellsL, ren, renL, renEls, keepO, keepS, keysO, refsS, refsOB, cntN, headC, setS, boxO, row, putW, putB, putB1, eNl, newOs, frz, renO, noExtO, zps, zp, two32, w64, -getElem?_pos]
theorem L25 (M d : Nat) (ns xs : List Int) (L : Int) (hn : ns.length = 8) (hb : ∀ y ∈ ns, 0 ≤ y ∧ y < 4294967296) (hx : ∀ n ∈ xs, 0 ≤ n ∧ n ≤ 255) : sem tab (M + 1000) (d + 4) 88 [hashV ns false xs L] [] = some (.agg [.blob 32 (uL (endI ns xs L))], []) := by
  obtain ⟨o, h1, h0, h2, h3⟩ := J24 ns xs L hn hb hx
  have e := (h2 0 0).symm.trans (L24 0 0 ns xs L hn)
  have e : uL o = uL (endI ns xs L) := by
    injection e with e; injection e with e; injection e with e; injection e with e; injection e with e
  rw [← e]; exact h3 M d
theorem endI_range (ns xs : List Int) (L : Int) (hn : ns.length = 8) (hb : ∀ y ∈ ns, 0 ≤ y ∧ y < 4294967296) (hx : ∀ n ∈ xs, 0 ≤ n ∧ n ≤ 255) : ∀ y ∈ endI ns xs L, 0 ≤ y ∧ y ≤ 255 := by
  obtain ⟨o, h1, h0, h2, h3⟩ := J24 ns xs L hn hb hx
  have e := (h2 0 0).symm.trans (L24 0 0 ns xs L hn)
  have e : uL o = uL (endI ns xs L) := by
    injection e with e; injection e with e; injection e with e; injection e with e; injection e with e
  rw [← uL_inj e]; exact h0
end
section
theorem nFirst_range : ∀ y ∈ nFirst, 0 ≤ y ∧ y < 4294967296 := by decide
theorem rounds_rest : ∀ (n : Nat) (rs xs : List Int), xs.length ≤ n → (∀ n ∈ xs, 0 ≤ n ∧ n ≤ 255) → ∀ y ∈ (rounds rs xs).2, 0 ≤ y ∧ y ≤ 255 := by
  intro n
  induction n with
  | zero =>
    intro rs xs h hb
    rw [rounds_short (by omega)]; exact hb
  | succ n ih =>
    intro rs xs h hb
    by_cases hx : xs.length < 64
    · rw [rounds_short hx]; exact hb
    · rw [rounds_long hx]
      exact ih _ _ (by simp; omega) (fun n hn => hb n (List.mem_of_mem_drop hn))
set_option maxHeartbeats 4000000 in
/-- The document's sum of bytes. -/
theorem L27 (M d : Nat) (ys : List Int) (h : ys.length ≤ 57600) (hb : ∀ n ∈ ys, 0 ≤ n ∧ n ≤ 255) : sem tab (M + 1000) (d + 5) 69 [.l false (byL ys)] [] = some (.agg [.blob 32 (uL (endI (rounds nFirst ys).1 (rounds nFirst ys).2 ys.length))], []) := by
  rw [sem_succ tab (M + 1000) (d + 4) 69 m69 rfl]
  have h22 := L22 (M + 1000) (d + 3)
  have h20 := L20 M d nFirst [] ys 0 rfl may_zero (by omega) (by simpa using h) (by simp) hb
  rw [List.nil_append, Int.zero_add] at h20
  have hb2 : ∀ n ∈ (rounds nFirst ys).2, 0 ≤ n ∧ n ≤ 255 := rounds_rest _ nFirst ys (Nat.le_refl _) hb
  have h25 := L25 M d (rounds nFirst ys).1 (rounds nFirst ys).2 ys.length (rounds_len _ nFirst ys (Nat.le_refl _) rfl).1 (rounds_range _ nFirst ys (Nat.le_refl _) rfl nFirst_range hb) hb2
  have hy := byL_len ys
  have hb : byL [] = [] := rfl
  rw [← hy] at h h20 h25 ⊢
  have n1 : ¬ ((byL ys).length : Int) > 1048576 := by omega
  have n2 : ¬ 1048576 < ((byL ys).length : Int) := by omega
  simp only [hashV_wL, hb] at h22 h20 h25 ⊢
  generalize byL (rounds nFirst ys).2 = q at *
  generalize wL (rounds nFirst ys).1 = r2 at *
  generalize wL nFirst = r at *
  generalize uL (endI _ _ _) = o at *
  generalize byL ys = b at *
  generalize hz : List.replicate 32 (PV.i IntKind.u8 0) = zz at *
  simp -implicitDefEqProofs (maxSteps := 1000000) (disch := first | omega | rfl) [m69, hz, h22, h20, h25, n1, n2, KS, getS, getO, gS, zipN, dropW, takeW, wds, stvs, sea, seaL, refs, refsL, refsEls, refsO, isPureEls, isPures, isPure, noExt, noExts, noExtEls, cellsL, ren, renL, renEls, keepO, keepS, keysO, refsS, refsOB, cntN, headC, setS, boxO, row, putW, putB, putB1, eNl, newOs, frz, renO, noExtO, zps, zp, two32, w64, -getElem?_pos]
end
section
theorem rev_ind {Q : List Int → Prop} (h0 : Q []) (h1 : ∀ l c, Q l → Q (l ++ [c])) (l : List Int) : Q l := by
  have key : ∀ r : List Int, Q r.reverse := by
    intro r
    induction r with
    | nil => exact h0
    | cons c r ih => rw [List.reverse_cons]; exact h1 _ _ ih
  have := key l.reverse
  rwa [List.reverse_reverse] at this
/-- The number of bytes, the greatest first. -/
def val (l : List Int) : Int := l.foldl (fun a c => a * 256 + c) 0
theorem val_app (l : List Int) (c : Int) : val (l ++ [c]) = val l * 256 + c := by simp [val]
theorem val_range : ∀ (l : List Int), (∀ x ∈ l, 0 ≤ x ∧ x ≤ 255) → 0 ≤ val l ∧ val l < 256 ^ l.length := by
  refine rev_ind (fun _ => by simp [val]) fun l c ih h => ?_
  obtain ⟨h1, h2⟩ := ih fun x hx => h x (by simp [hx])
  have hc := h c (by simp)
  rw [val_app, List.length_append, List.length_singleton, Int.pow_succ]
  constructor <;> omega
theorem val_be : ∀ (k : Nat) (n : Int), val (be k n) = n % 256 ^ k
  | 0, n => by simp [be, val]
  | k + 1, n => by
    rw [be, val_app, val_be k, Int.pow_succ]
    have h1 := Int.emod_add_mul_ediv n 256
    have h2 : n % (256 ^ k * 256) = 256 * ((n / 256) % 256 ^ k) + n % 256 := by
      rw [Int.mul_comm]
      have := Int.emod_emod_of_dvd n (show (256 : Int) ∣ 256 * 256 ^ k from ⟨_, rfl⟩)
      have e := Int.mul_emod_mul_of_pos (n / 256) (256 ^ k) (show (0 : Int) < 256 by decide)
      have e2 : n % (256 * 256 ^ k) = (256 * (n / 256) + n % 256) % (256 * 256 ^ k) := by congr 1; omega
      rw [e2]
      have hpos : (0 : Int) < 256 ^ k := Int.pow_pos (by decide)
      have r := Int.emod_nonneg (n / 256) (Int.ne_of_gt hpos)
      have r2 := Int.emod_lt_of_pos (n / 256) hpos
      have m := Int.emod_nonneg n (show (256 : Int) ≠ 0 by decide)
      have m2 := Int.emod_lt_of_pos n (show (0 : Int) < 256 by decide)
      rw [Int.add_emod, e]
      have e3 : n % 256 % (256 * 256 ^ k) = n % 256 := Int.emod_eq_of_lt m (by omega)
      rw [e3]
      exact Int.emod_eq_of_lt (by omega) (by omega)
    omega
theorem be_val : ∀ (l : List Int), (∀ x ∈ l, 0 ≤ x ∧ x ≤ 255) → be l.length (val l) = l := by
  refine rev_ind (fun _ => rfl) fun l c ih h => ?_
  have hc := h c (by simp)
  rw [val_app, List.length_append, List.length_singleton, be]
  have e1 : (val l * 256 + c) / 256 = val l := by omega
  have e2 : (val l * 256 + c) % 256 = c := by omega
  rw [e1, e2, ih fun x hx => h x (by simp [hx])]
/-- One byte more. -/
theorem shlor (a c : Int) (h0 : 0 ≤ a) (h1 : a < 2 ^ 56) (h2 : 0 ≤ c) (h3 : c < 256) : IntKind.u64.wrap (BitVec.ofInt 64 (IntKind.u64.wrap (a * 2 ^ 8)) ||| BitVec.ofInt 64 c).toNat = a * 256 + c := by
  obtain ⟨n, rfl⟩ : ∃ n : Nat, a = n := ⟨a.toNat, by omega⟩
  obtain ⟨m, rfl⟩ : ∃ n : Nat, c = n := ⟨c.toNat, by omega⟩
  have e : IntKind.u64.wrap ((n : Int) * 2 ^ 8) = (2 ^ 8 * n : Nat) := by rw [IntKind.wrap_u64]; omega
  rw [e, BitVec.ofInt_natCast, BitVec.ofInt_natCast, BitVec.toNat_or, BitVec.toNat_ofNat, BitVec.toNat_ofNat, Nat.mod_eq_of_lt (by omega), Nat.mod_eq_of_lt (by omega), ← Nat.two_pow_add_eq_or_of_lt (by omega), IntKind.wrap_u64]
  omega
end
section
theorem orV (a c : Int) (h0 : 0 ≤ a) (h1 : a < 2 ^ 56) (h2 : 0 ≤ c) (h3 : c < 256) : bi .or (.i .u64 (a * 256)) (.i .u64 c) = some (.i .u64 (a * 256 + c)) := by
  have h := shlor a c h0 h1 h2 h3
  have e : IntKind.u64.wrap (a * 2 ^ 8) = a * 256 := by rw [IntKind.wrap_u64]; omega
  rw [e] at h
  have : bi .or (.i .u64 (a * 256)) (.i .u64 c) = some (.i .u64 (IntKind.u64.wrap (BitVec.ofInt 64 (a * 256) ||| BitVec.ofInt 64 c).toNat)) := rfl
  rw [this, h]
theorem shlV (a : Int) (h0 : 0 ≤ a) (h1 : a < 2 ^ 56) : bi .shl (.i .u64 a) (.i .u64 8) = some (.i .u64 (a * 256)) := by
  have e : IntKind.u64.wrap (a * 2 ^ 8) = a * 256 := by rw [IntKind.wrap_u64]; omega
  have : bi .shl (.i .u64 a) (.i .u64 8) = some (.i .u64 (IntKind.u64.wrap (a * 2 ^ 8))) := rfl
  rw [this, e]
def slv (at' k : Nat) (acc : Int) (q : Bool) (xs : List (List PV)) (n i : Nat) : SL := [(1, .i .i64 at'), (2, .i .i64 k), (8, .i .u64 acc), (40, .l q xs), (41, .i .i64 n), (42, .i .i64 i)]
set_option maxHeartbeats 4000000 in
theorem stepv99 (Φ : Sem') (N : Nat) (g : SL → OB → Option R) (at' k : Nat) (acc c : Int) (q : Bool) (xs : List (List PV)) (n i : Nat) (hx : xs[i]? = some [.i .u8 c]) (hi : i < n) (hn : n < 1000000) (ha : 0 ≤ acc ∧ acc < 2 ^ 56) (hc : 0 ≤ c ∧ c ≤ 255) :
    m99b0 Φ N [] g (slv at' k acc q xs n i) [] = g (slv at' k (acc * 256 + c) q xs n (i + 1)) [] := by
  have w2 := w64n (i := i) (by omega)
  have w3 : IntKind.u64.wrap c = c := by rw [IntKind.wrap_u64]; omega
  have h1 := shlV acc ha.1 ha.2
  have h2 := orV acc c ha.1 ha.2 hc.1 (by omega)
  have ci : (i : Int) < n := by omega
  generalize hA : acc * 256 = A at *
  unfold m99b0
  rw [show gS (slv at' k acc q xs n i) 8 = .i .u64 acc from rfl]
  simp only [h1]
  simp -implicitDefEqProofs (maxSteps := 1000000) (disch := first | omega | rfl) [slv, hx, w2, w3, ci, h2, KS, getS, getO, gS, zipN, dropW, takeW, wds, stvs, sea, seaL, refs, refsL, refsEls, refsO, isPureEls, isPures, isPure, noExt, noExts, noExtEls, cellsL, ren, renL, renEls, keepO, keepS, keysO, refsS, refsOB, cntN, headC, setS, boxO, row, putW, putB, putB1, eNl, newOs, frz, renO, noExtO, zps, zp, two32, w64, -getElem?_pos]
end
section
set_option maxHeartbeats 4000000 in
theorem endv99 (Φ : Sem') (N : Nat) (g : SL → OB → Option R) (at' k : Nat) (acc : Int) (q : Bool) (xs : List (List PV)) (n : Nat) (h1 : at' < 1000000) (h2 : k < 1000000) :
    m99b0 Φ N [] g (slv at' k acc q xs n n) [] = some (.tup [.i .u64 acc, .i .i64 ((at' + k : Nat) : Int)], []) := by
  have w2 : IntKind.i64.wrap ((at' : Int) + k) = ((at' + k : Nat) : Int) := by rw [w64 (by omega) (by omega)]; omega
  simp -implicitDefEqProofs (maxSteps := 1000000) (disch := first | omega | rfl) [m99b0, slv, w2, KS, getS, getO, gS, zipN, dropW, takeW, wds, stvs, sea, seaL, refs, refsL, refsEls, refsO, isPureEls, isPures, isPure, noExt, noExts, noExtEls, cellsL, ren, renL, renEls, keepO, keepS, keysO, refsS, refsOB, cntN, headC, setS, boxO, row, putW, putB, putB1, eNl, newOs, frz, renO, noExtO, zps, zp, two32, w64, -getElem?_pos]
theorem loopv99 (Φ : Sem') (N : Nat) (at' k : Nat) (q : Bool) (ys : List Int) (hy : ys.length ≤ 8) (hr : ∀ x ∈ ys, 0 ≤ x ∧ x ≤ 255) (h1 : at' < 1000000) (h2 : k < 1000000) : ∀ (j i e : Nat), i + j = ys.length →
    loopC (m99b0 Φ N []) (e + 1 + j) (slv at' k (val (ys.take i)) q (byL ys) ys.length i) [] = some (.tup [.i .u64 (val ys), .i .i64 ((at' + k : Nat) : Int)], []) := by
  intro j
  induction j with
  | zero =>
    intro i e h
    have : i = ys.length := by omega
    subst this
    rw [Nat.add_zero, k_loop, endv99 Φ N _ at' k _ q (byL ys) ys.length h1 h2, List.take_length]
  | succ j ih =>
    intro i e h
    have hi : i < ys.length := by omega
    have hv := val_range (ys.take i) (fun x hx => hr x (List.mem_of_mem_take hx))
    have hle : (ys.take i).length ≤ 7 := by rw [List.length_take]; omega
    have hp : (256 : Int) ^ (ys.take i).length ≤ 2 ^ 56 := (by decide : ∀ m ≤ 7, (256 : Int) ^ m ≤ 2 ^ 56) _ hle
    rw [← Nat.add_assoc, k_loop, stepv99 Φ N _ at' k _ ys[i] q (byL ys) ys.length i (by simp [byL, hi]) hi (by omega) ⟨hv.1, by omega⟩ (hr _ (List.getElem_mem hi))]
    rw [← val_app, List.take_append_getElem hi]
    exact ih (i + 1) e (by omega)
set_option maxHeartbeats 4000000 in
/-- A number is read. -/
theorem V99 (N d : Nat) (q : Bool) (bs : List Int) (at' k : Nat) (hk : 1 ≤ k ∧ k ≤ 8) (hb : bs.length < 1000000) (hr : ∀ x ∈ bs, 0 ≤ x ∧ x ≤ 255) (hf : at' + k ≤ bs.length) :
    sem tab (N + 100) (d + 2) 99 [.l q (byL bs), .i .i64 at', .i .i64 k] [] = some (.tup [.i .u64 (val ((bs.drop at').take k)), .i .i64 ((at' + k : Nat) : Int)], []) := by
  rw [sem_succ tab (N + 100) (d + 1) 99 m99 rfl]
  have h146 := U146 (N + 100) d k
  have b1 : inB k 1 8 = true := by simp only [inB, Bool.and_eq_true, decide_eq_true_eq]; omega
  rw [b1] at h146
  have hyl : ((bs.drop at').take k).length = k := by rw [List.length_take, List.length_drop]; omega
  have h := loopv99 (sem tab (N + 100) (d + 1)) (N + 100) at' k q ((bs.drop at').take k) (by omega) (fun x hx => hr x (List.mem_of_mem_drop (List.mem_of_mem_take hx))) (by omega) (by omega) k 0 (N + 99 - k) (by omega)
  rw [show N + 99 - k + 1 + k = N + 100 by omega, hyl] at h
  have hby : byL ((bs.drop at').take k) = ((byL bs).take (at' + k)).drop at' := by simp [byL, List.map_take, List.map_drop, List.drop_take]
  have hbl := byL_len bs
  have hll : (((byL bs).take (at' + k)).drop at').length = k := by rw [← hby, byL_len, hyl]
  rw [hby] at h
  simp only [slv, List.take_zero, show val [] = 0 from rfl] at h ⊢
  rw [show ((0 : Nat) : Int) = 0 from rfl] at h
  generalize val ((bs.drop at').take k) = V at *
  have c1 : ¬ ((at' : Int) < 0) := by omega
  have c2 : ¬ ((at' : Int) > (byL bs).length) := by omega
  have c3 : ¬ (((byL bs).length : Int) - at' < k) := by omega
  have w1 : IntKind.i64.wrap (((byL bs).length : Int) - at') = ((byL bs).length : Int) - at' := w64 (by omega) (by omega)
  have w2 : IntKind.i64.wrap ((at' : Int) + k) = ((at' + k : Nat) : Int) := by rw [w64 (by omega) (by omega)]; omega
  have t1 : ((at' + k : Nat) : Int).toNat = at' + k := by omega
  have t2 : (at' : Int).toNat = at' := by omega
  have c4 : (at' : Int) ≤ ((at' + k : Nat) : Int) := by omega
  have c5 : ((at' + k : Nat) : Int) ≤ (byL bs).length := by omega
  have hw := allW_by bs
  rw [k_loop] at h
  generalize byL bs = b at *
  generalize hz : ((at' + k : Nat) : Int) = z at *
  simp -implicitDefEqProofs (maxSteps := 1000000) (disch := first | omega | rfl) [m99, h146, c1, c2, c3, w1, w2, t1, t2, c4, c5, hll, hw, h, KS, getS, getO, gS, zipN, dropW, takeW, wds, stvs, sea, seaL, refs, refsL, refsEls, refsO, isPureEls, isPures, isPure, noExt, noExts, noExtEls, cellsL, ren, renL, renEls, keepO, keepS, keysO, refsS, refsOB, cntN, headC, setS, boxO, row, putW, putB, putB1, eNl, newOs, frz, renO, noExtO, zps, zp, two32, w64, -getElem?_pos]
end
section
def slv93 (b : List (List PV)) (m at' : Nat) (ss : List (List PV)) (n i : Nat) : SL := [(0, .l false b), (6, .sl 119 0 0 m), (7, .i .i64 at'), (15, .l false ss), (16, .i .i64 n), (17, .i .i64 i)]
set_option maxHeartbeats 4000000 in
theorem stepv93 (N d : Nat) (g : SL → OB → Option R) (bs : List Int) (ss t : List (List PV)) (n i at' k : Nat) (hx : ss[i]? = some [.i .i64 k]) (hi : i < n) (hn : n ≤ 40) (hk : 1 ≤ k ∧ k ≤ 8) (hb : bs.length < 1000000) (hr : ∀ x ∈ bs, 0 ≤ x ∧ x ≤ 255) (hf : at' + k ≤ bs.length) (ht : t.length ≤ 100000) :
    m93b0 (sem tab (N + 100) (d + 2)) (N + 100) [] g (slv93 (byL bs) t.length at' ss n i) [(119, row t 1 true)] = g (slv93 (byL bs) (t ++ [[PV.i .u64 (val ((bs.drop at').take k))]]).length (at' + k) ss n (i + 1)) [(119, row (t ++ [[.i .u64 (val ((bs.drop at').take k))]]) 1 true)] := by
  have h99 := V99 N d false bs at' k hk hb hr hf
  have w2 := w64n (i := i) (by omega)
  have ci : (i : Int) < n := by omega
  have cz : (((at' + k : Nat) : Int) == -1) = false := by simp; omega
  generalize val ((bs.drop at').take k) = V at *
  generalize byL bs = b at *
  have t2 : List.take t.length t = t := List.take_length
  have e0 : t.length + 1 ≤ 4294967296 := by omega
  have e1 : ¬ (t.length + 1 ≤ t.length) := by omega
  have e3 : (t ++ [[PV.i .u64 V]]).length = t.length + 1 := by simp
  have e4 : List.take (t.length + 1) (t ++ [[PV.i .u64 V]]) = t ++ [[PV.i .u64 V]] := List.take_of_length_le (by omega)
  generalize hz : ((at' + k : Nat) : Int) = z at *
  simp -implicitDefEqProofs (maxSteps := 1000000) (disch := first | omega | rfl) [m93b0, slv93, hx, h99, w2, ci, cz, t2, e0, e1, e3, e4, hz, KS, getS, getO, gS, zipN, dropW, takeW, wds, stvs, sea, seaL, refs, refsL, refsEls, refsO, isPureEls, isPures, isPure, noExt, noExts, noExtEls, cellsL, ren, renL, renEls, keepO, keepS, keysO, refsS, refsOB, cntN, headC, setS, boxO, row, putW, putB, putB1, eNl, newOs, frz, renO, noExtO, zps, zp, two32, w64, -getElem?_pos]
set_option maxHeartbeats 4000000 in
theorem endv93 (N d : Nat) (g : SL → OB → Option R) (bs : List Int) (ss t : List (List PV)) (n : Nat) :
    m93b0 (sem tab N d) N [] g (slv93 (byL bs) t.length bs.length ss n n) [(119, row t 1 true)] = some (.tup [.sl 0 0 0 t.length, .b true], [row t 1 true]) := by
  have hl := byL_len bs
  have t2 : List.take t.length t = t := List.take_length
  rw [← hl]
  generalize byL bs = b at *
  simp -implicitDefEqProofs (maxSteps := 1000000) (disch := first | omega | rfl) [m93b0, slv93, t2, KS, getS, getO, gS, zipN, dropW, takeW, wds, stvs, sea, seaL, refs, refsL, refsEls, refsO, isPureEls, isPures, isPure, noExt, noExts, noExtEls, cellsL, ren, renL, renEls, keepO, keepS, keysO, refsS, refsOB, cntN, headC, setS, boxO, row, putW, putB, putB1, eNl, newOs, frz, renO, noExtO, zps, zp, two32, w64, -getElem?_pos]
/-- Numbers of bytes, by their sizes. -/
def cuts (bs : List Int) : Nat → List Nat → List (List PV)
  | _, [] => []
  | at', k :: r => [.i .u64 (val ((bs.drop at').take k))] :: cuts bs (at' + k) r
def kL (ks : List Nat) : List (List PV) := ks.map fun k => [.i .i64 (k : Nat)]
def sumL : List Nat → Nat
  | [] => 0
  | k :: r => k + sumL r
theorem loopv93 (N d : Nat) (bs : List Int) (ks : List Nat) (hks : ∀ k ∈ ks, 1 ≤ k ∧ k ≤ 8) (hn : ks.length ≤ 40) (hb : bs.length < 1000000) (hr : ∀ x ∈ bs, 0 ≤ x ∧ x ≤ 255) : ∀ (j i e at' : Nat) (t : List (List PV)), i + j = ks.length → at' + sumL (ks.drop i) = bs.length → t.length = i →
    loopC (m93b0 (sem tab (N + 100) (d + 2)) (N + 100) []) (e + 1 + j) (slv93 (byL bs) t.length at' (kL ks) ks.length i) [(119, row t 1 true)] = some (.tup [.sl 0 0 0 (t ++ cuts bs at' (ks.drop i)).length, .b true], [row (t ++ cuts bs at' (ks.drop i)) 1 true]) := by
  intro j
  induction j with
  | zero =>
    intro i e at' t h hs ht
    have : i = ks.length := by omega
    subst this
    rw [List.drop_length] at hs ⊢
    simp only [sumL, Nat.add_zero] at hs
    subst hs
    rw [Nat.add_zero, k_loop, endv93]
    simp [cuts]
  | succ j ih =>
    intro i e at' t h hs ht
    have hi : i < ks.length := by omega
    have q1 := List.drop_eq_getElem_cons hi
    rw [q1] at hs ⊢
    simp only [sumL] at hs
    have hk := hks _ (List.getElem_mem hi)
    rw [← Nat.add_assoc, k_loop, stepv93 N d _ bs (kL ks) t ks.length i at' ks[i] (by simp [kL, hi]) hi hn hk hb hr (by omega) (by omega), ih (i + 1) e _ _ (by omega) (by omega) (by simp [ht])]
    simp only [cuts, List.append_assoc, List.cons_append, List.nil_append]
set_option maxHeartbeats 4000000 in
/-- Numbers are cut. -/
theorem V93 (N d : Nat) (bs : List Int) (ks : List Nat) (hks : ∀ k ∈ ks, 1 ≤ k ∧ k ≤ 8) (hn : ks.length ≤ 40) (hb : bs.length < 1000000) (hr : ∀ x ∈ bs, 0 ≤ x ∧ x ≤ 255) (hs : sumL ks = bs.length) :
    sem tab (N + 100) (d + 3) 93 [.l false (byL bs), .l false (kL ks)] [] = some (.tup [.sl 0 0 0 (cuts bs 0 ks).length, .b true], [row (cuts bs 0 ks) 1 true]) := by
  rw [sem_succ tab (N + 100) (d + 2) 93 m93 rfl]
  have h := loopv93 N d bs ks hks hn hb hr ks.length 0 (N + 99 - ks.length) 0 [] (by omega) (by simpa using hs) rfl
  rw [show N + 99 - ks.length + 1 + ks.length = N + 100 by omega, List.drop_zero, List.nil_append] at h
  have hl : (kL ks).length = ks.length := by simp [kL]
  have ci : ¬ ((ks.length : Int) > 40) := by omega
  rw [k_loop] at h
  simp only [slv93, List.length_nil] at h
  generalize cuts bs 0 ks = c at *
  generalize kL ks = m at *
  generalize byL bs = b at *
  rw [show ((0 : Nat) : Int) = 0 from rfl] at h
  simp only [row] at h ⊢
  simp -implicitDefEqProofs (maxSteps := 1000000) (disch := first | omega | rfl) [m93, hl, ci, h, KS, getS, getO, gS, zipN, dropW, takeW, wds, stvs, sea, seaL, refs, refsL, refsEls, refsO, isPureEls, isPures, isPure, noExt, noExts, noExtEls, cellsL, ren, renL, renEls, keepO, keepS, keysO, refsS, refsOB, cntN, headC, setS, boxO, row, putW, putB, putB1, eNl, newOs, frz, renO, noExtO, zps, zp, two32, w64, -getElem?_pos]
end
section
/-- An entry's numbers. -/
structure En where
  kind : Int
  tick : Int
  epoch : Int
  user : Int
  sess : Int
  count : Int
  cmd : Int
  arg : Int
  code : Int
def enC (e : En) : List PV := [.i .i64 e.kind, .i .i64 e.tick, .i .i64 e.epoch, .i .i64 e.user, .i .u64 e.sess, .i .u64 e.count, .i .i64 e.cmd, .i .i64 e.arg, .i .i64 e.code]
theorem V83 (N d : Nat) (a c : Int) : sem tab N (d + 1) 83 [.i .i64 a, .i .i64 c] [] = some (.b (inB a 0 c), []) := by
  rw [sem_succ tab N d 83 m83 rfl]
  by_cases h : 0 ≤ a <;> simp -implicitDefEqProofs (disch := first | omega | rfl) [m83, inB, h, KS, getS, getO, gS, zipN, dropW, takeW, wds, stvs, sea, seaL, refs, refsL, refsEls, refsO, isPureEls, isPures, isPure, noExt, noExts, noExtEls, cellsL, ren, renL, renEls, keepO, keepS, keysO, refsS, refsOB, cntN, headC, setS, boxO, row, putW, putB, putB1, eNl, newOs, frz, renO, noExtO, zps, zp, two32, w64, -getElem?_pos]
theorem cav83 (N d : Nat) (ob : OB) (n : Nat) (a c : Int) : cav (sem tab N (d + 1)) ob n false (.fn 83 [] []) [.i .i64 a, .i .i64 c] = some (.b (inB a 0 c), []) := by
  have h := V83 N d a c
  have e : reifies ob [PV.i .i64 a, .i .i64 c] = some ([.i .i64 a, .i .i64 c], []) := by simp [reifies, reify, reify0]
  have r : reach ob 20 (refsL [PV.i .i64 a, .i .i64 c]) [] = some [] := by simp [refsL, refs, reach]
  simp only [cav, List.nil_append, List.append_nil]
  unfold ca
  simp only [hand, Bool.false_eq_true, if_false, e, r, h]
  simp [back0, ren]
def szs : List Nat := [1, 4, 4, 1, 8, 8, 1, 2, 1]
theorem V62 (N d : Nat) : sem tab N (d + 1) 62 [] [] = some (.sl 0 0 0 9, [row (kL szs) 1 true]) := by
  rw [sem_succ tab N d 62 m62 rfl]
  simp -implicitDefEqProofs (disch := first | omega | rfl) [m62, kL, szs, KS, getS, getO, gS, zipN, dropW, takeW, wds, stvs, sea, seaL, refs, refsL, refsEls, refsO, isPureEls, isPures, isPure, noExt, noExts, noExtEls, cellsL, ren, renL, renEls, keepO, keepS, keysO, refsS, refsOB, cntN, headC, setS, boxO, row, putW, putB, putB1, eNl, newOs, frz, renO, noExtO, zps, zp, two32, w64, -getElem?_pos]
/-- May an entry be? -/
def mayE (e : En) : Bool := inB e.kind 0 4 && inB e.tick 0 1073741824 && inB e.epoch 0 1073741824 && inB e.user 0 255 && inB e.cmd 0 255 && inB e.arg 0 65535 && inB e.code 0 12
set_option maxHeartbeats 4000000 in
theorem V61 (N d : Nat) (e : En) : sem tab N (d + 2) 61 [.agg (enC e)] [] = some (.b (mayE e), []) := by
  rw [sem_succ tab N (d + 1) 61 m61 rfl]
  have h := fun ob n a c => cav83 N d ob n a c
  obtain ⟨e1, e2, e3, e4, e5, e6, e7, e8, e9⟩ := e
  simp only [mayE, enC]
  cases b1 : inB e1 0 4
  · simp -implicitDefEqProofs (maxSteps := 1000000) (disch := first | omega | rfl) [m61, h, b1, KS, getS, getO, gS, zipN, dropW, takeW, wds, stvs, sea, seaL, refs, refsL, refsEls, refsO, isPureEls, isPures, isPure, noExt, noExts, noExtEls, cellsL, ren, renL, renEls, keepO, keepS, keysO, refsS, refsOB, cntN, headC, setS, boxO, row, putW, putB, putB1, eNl, newOs, frz, renO, noExtO, zps, zp, two32, w64, -getElem?_pos]
  cases b2 : inB e2 0 1073741824
  · simp -implicitDefEqProofs (maxSteps := 1000000) (disch := first | omega | rfl) [m61, h, b1, b2, KS, getS, getO, gS, zipN, dropW, takeW, wds, stvs, sea, seaL, refs, refsL, refsEls, refsO, isPureEls, isPures, isPure, noExt, noExts, noExtEls, cellsL, ren, renL, renEls, keepO, keepS, keysO, refsS, refsOB, cntN, headC, setS, boxO, row, putW, putB, putB1, eNl, newOs, frz, renO, noExtO, zps, zp, two32, w64, -getElem?_pos]
  cases b3 : inB e3 0 1073741824
  · simp -implicitDefEqProofs (maxSteps := 1000000) (disch := first | omega | rfl) [m61, h, b1, b2, b3, KS, getS, getO, gS, zipN, dropW, takeW, wds, stvs, sea, seaL, refs, refsL, refsEls, refsO, isPureEls, isPures, isPure, noExt, noExts, noExtEls, cellsL, ren, renL, renEls, keepO, keepS, keysO, refsS, refsOB, cntN, headC, setS, boxO, row, putW, putB, putB1, eNl, newOs, frz, renO, noExtO, zps, zp, two32, w64, -getElem?_pos]
  cases b4 : inB e4 0 255
  · simp -implicitDefEqProofs (maxSteps := 1000000) (disch := first | omega | rfl) [m61, h, b1, b2, b3, b4, KS, getS, getO, gS, zipN, dropW, takeW, wds, stvs, sea, seaL, refs, refsL, refsEls, refsO, isPureEls, isPures, isPure, noExt, noExts, noExtEls, cellsL, ren, renL, renEls, keepO, keepS, keysO, refsS, refsOB, cntN, headC, setS, boxO, row, putW, putB, putB1, eNl, newOs, frz, renO, noExtO, zps, zp, two32, w64, -getElem?_pos]
  cases b5 : inB e7 0 255
  · simp -implicitDefEqProofs (maxSteps := 1000000) (disch := first | omega | rfl) [m61, h, b1, b2, b3, b4, b5, KS, getS, getO, gS, zipN, dropW, takeW, wds, stvs, sea, seaL, refs, refsL, refsEls, refsO, isPureEls, isPures, isPure, noExt, noExts, noExtEls, cellsL, ren, renL, renEls, keepO, keepS, keysO, refsS, refsOB, cntN, headC, setS, boxO, row, putW, putB, putB1, eNl, newOs, frz, renO, noExtO, zps, zp, two32, w64, -getElem?_pos]
  cases b6 : inB e8 0 65535
  · simp -implicitDefEqProofs (maxSteps := 1000000) (disch := first | omega | rfl) [m61, h, b1, b2, b3, b4, b5, b6, KS, getS, getO, gS, zipN, dropW, takeW, wds, stvs, sea, seaL, refs, refsL, refsEls, refsO, isPureEls, isPures, isPure, noExt, noExts, noExtEls, cellsL, ren, renL, renEls, keepO, keepS, keysO, refsS, refsOB, cntN, headC, setS, boxO, row, putW, putB, putB1, eNl, newOs, frz, renO, noExtO, zps, zp, two32, w64, -getElem?_pos]
  cases b7 : inB e9 0 12
  · simp -implicitDefEqProofs (maxSteps := 1000000) (disch := first | omega | rfl) [m61, h, b1, b2, b3, b4, b5, b6, b7, KS, getS, getO, gS, zipN, dropW, takeW, wds, stvs, sea, seaL, refs, refsL, refsEls, refsO, isPureEls, isPures, isPure, noExt, noExts, noExtEls, cellsL, ren, renL, renEls, keepO, keepS, keysO, refsS, refsOB, cntN, headC, setS, boxO, row, putW, putB, putB1, eNl, newOs, frz, renO, noExtO, zps, zp, two32, w64, -getElem?_pos]
  · simp -implicitDefEqProofs (maxSteps := 1000000) (disch := first | omega | rfl) [m61, h, b1, b2, b3, b4, b5, b6, b7, KS, getS, getO, gS, zipN, dropW, takeW, wds, stvs, sea, seaL, refs, refsL, refsEls, refsO, isPureEls, isPures, isPure, noExt, noExts, noExtEls, cellsL, ren, renL, renEls, keepO, keepS, keysO, refsS, refsOB, cntN, headC, setS, boxO, row, putW, putB, putB1, eNl, newOs, frz, renO, noExtO, zps, zp, two32, w64, -getElem?_pos]
end
section
def vAt (bs : List Int) (i k : Nat) : Int := val ((bs.drop i).take k)
/-- What bytes seem to be. -/
def getE (bs : List Int) : En := ⟨vAt bs 0 1, vAt bs 1 4, vAt bs 5 4, vAt bs 9 1, vAt bs 10 8, vAt bs 18 8, vAt bs 26 1, vAt bs 27 2, vAt bs 29 1⟩
def zeE : En := ⟨0, 0, 0, 0, 0, 0, 0, 0, 0⟩
theorem vAt_range (bs : List Int) (hr : ∀ x ∈ bs, 0 ≤ x ∧ x ≤ 255) (i k : Nat) (hk : k ≤ 4) : 0 ≤ vAt bs i k ∧ vAt bs i k < 4294967296 := by
  have h := val_range ((bs.drop i).take k) (fun x hx => hr x (List.mem_of_mem_drop (List.mem_of_mem_take hx)))
  have hl : ((bs.drop i).take k).length ≤ 4 := by rw [List.length_take]; omega
  have hp : (256 : Int) ^ ((bs.drop i).take k).length ≤ 4294967296 := (by decide : ∀ m ≤ 4, (256 : Int) ^ m ≤ 4294967296) _ hl
  exact ⟨h.1, by unfold vAt; omega⟩
theorem cuts_szs (bs : List Int) : cuts bs 0 szs = [[.i .u64 (vAt bs 0 1)], [.i .u64 (vAt bs 1 4)], [.i .u64 (vAt bs 5 4)], [.i .u64 (vAt bs 9 1)], [.i .u64 (vAt bs 10 8)], [.i .u64 (vAt bs 18 8)], [.i .u64 (vAt bs 26 1)], [.i .u64 (vAt bs 27 2)], [.i .u64 (vAt bs 29 1)]] := rfl
set_option maxHeartbeats 8000000 in
/-- The entry of 30 bytes. -/
theorem V82 (N d : Nat) (bs : List Int) (hl : bs.length = 30) (hr : ∀ x ∈ bs, 0 ≤ x ∧ x ≤ 255) :
    sem tab (N + 100) (d + 4) 82 [.l false (byL bs)] [] = some (.tup [.agg (enC (cond (mayE (getE bs)) (getE bs) zeE)), .b (mayE (getE bs))], []) := by
  rw [sem_succ tab (N + 100) (d + 3) 82 m82 rfl]
  have h62 := V62 (N + 100) (d + 2)
  have h93 := V93 N d bs szs (by decide) (by decide) (by omega) hr (by rw [hl]; rfl)
  have h61 := V61 (N + 100) (d + 1) (getE bs)
  rw [cuts_szs] at h93
  have r0 := vAt_range bs hr 0 1 (by decide)
  have r1 := vAt_range bs hr 1 4 (by decide)
  have r2 := vAt_range bs hr 5 4 (by decide)
  have r3 := vAt_range bs hr 9 1 (by decide)
  have r6 := vAt_range bs hr 26 1 (by decide)
  have r7 := vAt_range bs hr 27 2 (by decide)
  have r8 := vAt_range bs hr 29 1 (by decide)
  simp only [getE, enC] at h61 ⊢
  generalize vAt bs 0 1 = u0 at *
  generalize vAt bs 1 4 = u1 at *
  generalize vAt bs 5 4 = u2 at *
  generalize vAt bs 9 1 = u3 at *
  generalize vAt bs 10 8 = u4 at *
  generalize vAt bs 18 8 = u5 at *
  generalize vAt bs 26 1 = u6 at *
  generalize vAt bs 27 2 = u7 at *
  generalize vAt bs 29 1 = u8 at *
  have w0 : IntKind.i64.wrap u0 = u0 := w64 (by omega) (by omega)
  have w1 : IntKind.i64.wrap u1 = u1 := w64 (by omega) (by omega)
  have w2 : IntKind.i64.wrap u2 = u2 := w64 (by omega) (by omega)
  have w3 : IntKind.i64.wrap u3 = u3 := w64 (by omega) (by omega)
  have w6 : IntKind.i64.wrap u6 = u6 := w64 (by omega) (by omega)
  have w7 : IntKind.i64.wrap u7 = u7 := w64 (by omega) (by omega)
  have w8 : IntKind.i64.wrap u8 = u8 := w64 (by omega) (by omega)
  have kl : (kL szs).length = 9 := rfl
  have kt : List.take 9 (kL szs) = kL szs := rfl
  generalize kL szs = kk at *
  generalize byL bs = b at *
  simp only [row] at h62 h93
  generalize mayE ⟨u0, u1, u2, u3, u4, u5, u6, u7, u8⟩ = m at *
  cases m <;> simp -implicitDefEqProofs (maxSteps := 1000000) (disch := first | omega | rfl) [m82, zeE, h62, h93, h61, kl, kt, w0, w1, w2, w3, w6, w7, w8, KS, getS, getO, gS, zipN, dropW, takeW, wds, stvs, sea, seaL, refs, refsL, refsEls, refsO, isPureEls, isPures, isPure, noExt, noExts, noExtEls, cellsL, ren, renL, renEls, keepO, keepS, keysO, refsS, refsOB, cntN, headC, setS, boxO, row, putW, putB, putB1, eNl, newOs, frz, renO, noExtO, zps, zp, two32, w64, -getElem?_pos]
end
section
/-- An entry's bytes. -/
def encB (e : En) : List Int := be 1 e.kind ++ (be 4 e.tick ++ (be 4 e.epoch ++ (be 1 e.user ++ (be 8 e.sess ++ (be 8 e.count ++ (be 1 e.cmd ++ (be 2 e.arg ++ be 1 e.code)))))))
theorem encB_len (e : En) : (encB e).length = 30 := by simp [encB, be_len]
theorem be_vAt (bs : List Int) (hr : ∀ x ∈ bs, 0 ≤ x ∧ x ≤ 255) (i k : Nat) (h : i + k ≤ bs.length) : be k (vAt bs i k) = (bs.drop i).take k := by
  have hl : ((bs.drop i).take k).length = k := by rw [List.length_take, List.length_drop]; omega
  have := be_val ((bs.drop i).take k) (fun x hx => hr x (List.mem_of_mem_drop (List.mem_of_mem_take hx)))
  rw [hl] at this
  exact this
theorem enc_get (bs : List Int) (hl : bs.length = 30) (hr : ∀ x ∈ bs, 0 ≤ x ∧ x ≤ 255) : encB (getE bs) = bs := by
  have st : ∀ i k, (bs.drop i).take k ++ bs.drop (i + k) = bs.drop i := fun i k => by
    rw [← List.drop_drop]; exact List.take_append_drop _ _
  simp only [encB, getE]
  rw [be_vAt bs hr 0 1 (by omega), be_vAt bs hr 1 4 (by omega), be_vAt bs hr 5 4 (by omega), be_vAt bs hr 9 1 (by omega), be_vAt bs hr 10 8 (by omega), be_vAt bs hr 18 8 (by omega), be_vAt bs hr 26 1 (by omega), be_vAt bs hr 27 2 (by omega), be_vAt bs hr 29 1 (by omega)]
  have e : (bs.drop 29).take 1 = bs.drop 29 := List.take_of_length_le (by rw [List.length_drop]; omega)
  rw [e, st 27 2, st 26 1, st 18 8, st 10 8, st 9 1, st 5 4, st 1 4, st 0 1, List.drop_zero]
theorem vAt_app (a b c : List Int) (k : Nat) (h : b.length = k) : vAt (a ++ (b ++ c)) a.length k = val b := by
  subst h
  simp [vAt]
/-- Are the two long numbers ones? -/
def okE (e : En) : Prop := 0 ≤ e.sess ∧ e.sess < 18446744073709551616 ∧ 0 ≤ e.count ∧ e.count < 18446744073709551616
theorem get_enc (e : En) (h : okE e) (hm : mayE e = true) : getE (encB e) = e := by
  obtain ⟨e1, e2, e3, e4, e5, e6, e7, e8, e9⟩ := e
  simp only [okE] at h
  simp only [mayE, inB, Bool.and_eq_true, decide_eq_true_eq] at hm
  have v : ∀ (i k : Nat) (n : Int) (a c : List Int), a.length = i → 0 ≤ n → n < 256 ^ k → vAt (a ++ (be k n ++ c)) i k = n := by
    intro i k n a c ha h0 h1
    subst ha
    rw [vAt_app a (be k n) c k (be_len k n), val_be, Int.emod_eq_of_lt h0 h1]
  have l := be_len
  simp only [getE, encB]
  have x1 := v 0 1 e1 [] (be 4 e2 ++ (be 4 e3 ++ (be 1 e4 ++ (be 8 e5 ++ (be 8 e6 ++ (be 1 e7 ++ (be 2 e8 ++ be 1 e9))))))) rfl (by omega) (by omega)
  have x2 := v 1 4 e2 (be 1 e1) (be 4 e3 ++ (be 1 e4 ++ (be 8 e5 ++ (be 8 e6 ++ (be 1 e7 ++ (be 2 e8 ++ be 1 e9)))))) (by simp [l]) (by omega) (by omega)
  have x3 := v 5 4 e3 (be 1 e1 ++ be 4 e2) (be 1 e4 ++ (be 8 e5 ++ (be 8 e6 ++ (be 1 e7 ++ (be 2 e8 ++ be 1 e9))))) (by simp [l]) (by omega) (by omega)
  have x4 := v 9 1 e4 (be 1 e1 ++ (be 4 e2 ++ be 4 e3)) (be 8 e5 ++ (be 8 e6 ++ (be 1 e7 ++ (be 2 e8 ++ be 1 e9)))) (by simp [l]) (by omega) (by omega)
  have x5 := v 10 8 e5 (be 1 e1 ++ (be 4 e2 ++ (be 4 e3 ++ be 1 e4))) (be 8 e6 ++ (be 1 e7 ++ (be 2 e8 ++ be 1 e9))) (by simp [l]) (by omega) (by omega)
  have x6 := v 18 8 e6 (be 1 e1 ++ (be 4 e2 ++ (be 4 e3 ++ (be 1 e4 ++ be 8 e5)))) (be 1 e7 ++ (be 2 e8 ++ be 1 e9)) (by simp [l]) (by omega) (by omega)
  have x7 := v 26 1 e7 (be 1 e1 ++ (be 4 e2 ++ (be 4 e3 ++ (be 1 e4 ++ (be 8 e5 ++ be 8 e6))))) (be 2 e8 ++ be 1 e9) (by simp [l]) (by omega) (by omega)
  have x8 := v 27 2 e8 (be 1 e1 ++ (be 4 e2 ++ (be 4 e3 ++ (be 1 e4 ++ (be 8 e5 ++ (be 8 e6 ++ be 1 e7)))))) (be 1 e9) (by simp [l]) (by omega) (by omega)
  have x9 := v 29 1 e9 (be 1 e1 ++ (be 4 e2 ++ (be 4 e3 ++ (be 1 e4 ++ (be 8 e5 ++ (be 8 e6 ++ (be 1 e7 ++ be 2 e8))))))) [] (by simp [l]) (by omega) (by omega)
  simp only [List.append_assoc, List.nil_append, List.append_nil] at x1 x2 x3 x4 x5 x6 x7 x8 x9
  rw [x1, x2, x3, x4, x5, x6, x7, x8, x9]
end
section
def slv34 (m i : Nat) : SL := [(4, .p 96 0 0 0 none), (5, .sl 111 0 0 m), (37, .sl 360 0 0 9), (38, .i .i64 9), (39, .i .i64 i)]
def obv34 (t kk : List (List PV)) (us : List PV) : OB := [(111, row t 2 true), (96, box [.blob 9 us] 9), (360, row kk 1 true)]
set_option maxHeartbeats 4000000 in
theorem stepv34 (N d : Nat) (g : SL → OB → Option R) (t kk : List (List PV)) (us : List PV) (i k : Nat) (n : Int) (hx : kk[i]? = some [.i .i64 k]) (hu : us[i]? = some (.i .u64 n)) (hi : i < 9) (hk : kk.length = 9) (hul : us.length = 9) (ht : t.length ≤ 100) :
    m34b0 (sem tab N d) N [] g (slv34 t.length i) (obv34 t kk us) = g (slv34 (t ++ [[PV.i .u64 n, .i .i64 k]]).length (i + 1)) (obv34 (t ++ [[.i .u64 n, .i .i64 k]]) kk us) := by
  have w2 := w64n (i := i) (by omega)
  have ci : (i : Int) < 9 := by omega
  have t2 : List.take t.length t = t := List.take_length
  have e0 : t.length + 1 ≤ 4294967296 := by omega
  have e1 : ¬ (t.length + 1 ≤ t.length) := by omega
  have e3 : (t ++ [[PV.i .u64 n, .i .i64 k]]).length = t.length + 1 := by simp
  have e4 : List.take (t.length + 1) (t ++ [[PV.i .u64 n, .i .i64 k]]) = t ++ [[.i .u64 n, .i .i64 k]] := List.take_of_length_le (by omega)
  simp -implicitDefEqProofs (maxSteps := 1000000) (disch := first | omega | rfl) [m34b0, slv34, obv34, box, hx, hu, hk, hul, w2, ci, t2, e0, e1, e3, e4, KS, getS, getO, gS, zipN, dropW, takeW, wds, stvs, sea, seaL, refs, refsL, refsEls, refsO, isPureEls, isPures, isPure, noExt, noExts, noExtEls, cellsL, ren, renL, renEls, keepO, keepS, keysO, refsS, refsOB, cntN, headC, setS, boxO, row, putW, putB, putB1, eNl, newOs, frz, renO, noExtO, zps, zp, two32, w64, -getElem?_pos]
set_option maxHeartbeats 4000000 in
theorem endv34 (N d : Nat) (g : SL → OB → Option R) (kk : List (List PV)) (us : List PV) (l : List (Int × Nat)) (hl : l.length = 9) (ho : ∀ x ∈ l, okNu x) (hf : fitAll l = true) :
    m34b0 (sem tab (N + 100) (d + 3)) (N + 100) [] g (slv34 9 9) (obv34 (nuL l) kk us) = some (.tup [.sl 0 0 0 (catB l).length, .b true], [row (byL (catB l)) 1 true]) := by
  have h := U39c N d l (by omega) ho
  rw [hf, cond_true] at h
  have nl : (nuL l).length = 9 := by simp [nuL, hl]
  have nt : List.take 9 (nuL l) = nuL l := List.take_of_length_le (by omega)
  have bl := byL_len (catB l)
  rw [← bl] at h ⊢
  generalize byL (catB l) = c at *
  have ct : List.take c.length c = c := List.take_length
  generalize nuL l = t at *
  simp only [row] at h
  simp -implicitDefEqProofs (maxSteps := 1000000) (disch := first | omega | rfl) [m34b0, slv34, obv34, box, h, nl, nt, ct, KS, getS, getO, gS, zipN, dropW, takeW, wds, stvs, sea, seaL, refs, refsL, refsEls, refsO, isPureEls, isPures, isPure, noExt, noExts, noExtEls, cellsL, ren, renL, renEls, keepO, keepS, keysO, refsS, refsOB, cntN, headC, setS, boxO, row, putW, putB, putB1, eNl, newOs, frz, renO, noExtO, zps, zp, two32, w64, -getElem?_pos]
end
section
theorem loopv34 (N d : Nat) (l : List (Int × Nat)) (kk : List (List PV)) (us : List PV) (hk : ∀ (i : Nat) (x : Int × Nat), l[i]? = some x → kk[i]? = some [.i .i64 x.2] ∧ us[i]? = some (.i .u64 x.1)) (hkl : kk.length = 9) (hul : us.length = 9) (hl : l.length = 9) (ho : ∀ x ∈ l, okNu x) (hf : fitAll l = true) : ∀ (j i e : Nat), i + j = 9 →
    loopC (m34b0 (sem tab (N + 100) (d + 3)) (N + 100) []) (e + 1 + j) (slv34 i i) (obv34 (nuL (l.take i)) kk us) = some (.tup [.sl 0 0 0 (catB l).length, .b true], [row (byL (catB l)) 1 true]) := by
  intro j
  induction j with
  | zero =>
    intro i e h
    have : i = 9 := by omega
    subst this
    rw [Nat.add_zero, k_loop, List.take_of_length_le (by omega)]
    exact endv34 N d _ kk us l hl ho hf
  | succ j ih =>
    intro i e h
    have hi : i < l.length := by omega
    obtain ⟨h1, h2⟩ := hk i l[i] (List.getElem?_eq_getElem hi)
    have tl : (nuL (l.take i)).length = i := by simp [nuL]; omega
    have st := stepv34 (N + 100) (d + 3) (loopC (m34b0 (sem tab (N + 100) (d + 3)) (N + 100) []) (e + 1 + j)) (nuL (l.take i)) kk us i l[i].2 l[i].1 h1 h2 (by omega) hkl hul (by omega)
    have en : nuL (l.take i) ++ [[PV.i .u64 l[i].1, .i .i64 (l[i].2 : Nat)]] = nuL (l.take (i + 1)) := by
      rw [← List.take_append_getElem hi]
      unfold nuL
      rw [List.map_append]
      rfl
    have tl2 : (nuL (l.take (i + 1))).length = i + 1 := by simp [nuL]; omega
    rw [en, tl, tl2] at st
    rw [← Nat.add_assoc, k_loop, st]
    exact ih (i + 1) e (by omega)
end
section
def nuE (e : En) : List (Int × Nat) := [(e.kind, 1), (e.tick, 4), (e.epoch, 4), (e.user, 1), (e.sess, 8), (e.count, 8), (e.cmd, 1), (e.arg, 2), (e.code, 1)]
def usE (e : En) : List PV := [.i .u64 e.kind, .i .u64 e.tick, .i .u64 e.epoch, .i .u64 e.user, .i .u64 e.sess, .i .u64 e.count, .i .u64 e.cmd, .i .u64 e.arg, .i .u64 e.code]
theorem catB_nuE (e : En) : catB (nuE e) = encB e := by simp [catB, nuE, encB]
theorem fitAll_nuE (e : En) (hm : mayE e = true) : fitAll (nuE e) = true := by
  simp only [mayE, inB, Bool.and_eq_true, decide_eq_true_eq] at hm
  have z : ∀ (n m : Int), 0 ≤ n → n < m → n / m = 0 := fun n m h0 h1 => Int.ediv_eq_zero_of_lt h0 h1
  simp only [fitAll, nuE, fitsB]
  rw [z e.kind (256 ^ 1) (by omega) (by omega), z e.tick (256 ^ 4) (by omega) (by omega), z e.epoch (256 ^ 4) (by omega) (by omega), z e.user (256 ^ 1) (by omega) (by omega), z e.cmd (256 ^ 1) (by omega) (by omega), z e.arg (256 ^ 2) (by omega) (by omega), z e.code (256 ^ 1) (by omega) (by omega)]
  rfl
theorem okNu_nuE (e : En) (h : okE e) (hm : mayE e = true) : ∀ x ∈ nuE e, okNu x := by
  simp only [mayE, inB, Bool.and_eq_true, decide_eq_true_eq] at hm
  simp only [okE] at h
  intro x hx
  simp only [nuE, List.mem_cons, List.not_mem_nil, or_false] at hx
  rcases hx with rfl | rfl | rfl | rfl | rfl | rfl | rfl | rfl | rfl <;> simp only [okNu] <;> omega
end
section
set_option maxHeartbeats 8000000 in
theorem V34 (N d : Nat) (e : En) (h : okE e) : sem tab (N + 100) (d + 4) 34 [.agg (enC e)] [] = cond (mayE e) (some (.tup [.sl 0 0 0 30, .b true], [row (byL (encB e)) 1 true])) (some (.tup [.sl 0 0 0 0, .b false], [row [] 1 true])) := by
  rw [sem_succ tab (N + 100) (d + 3) 34 m34 rfl]
  have h61 := V61 (N + 100) (d + 1) e
  have h62 := V62 (N + 100) (d + 2)
  cases hm : mayE e
  · rw [hm] at h61
    simp only [enC] at h61 ⊢
    simp -implicitDefEqProofs (maxSteps := 1000000) (disch := first | omega | rfl) [m34, h61, KS, getS, getO, gS, zipN, dropW, takeW, wds, stvs, sea, seaL, refs, refsL, refsEls, refsO, isPureEls, isPures, isPure, noExt, noExts, noExtEls, cellsL, ren, renL, renEls, keepO, keepS, keysO, refsS, refsOB, cntN, headC, setS, boxO, row, putW, putB, putB1, eNl, newOs, frz, renO, noExtO, zps, zp, two32, w64, -getElem?_pos]
  · have hl := loopv34 N d (nuE e) (kL szs) (usE e) (fun i x hx => by
      match i, hx with
      | 0, hx | 1, hx | 2, hx | 3, hx | 4, hx | 5, hx | 6, hx | 7, hx | 8, hx => simp [nuE] at hx; subst hx; exact ⟨rfl, rfl⟩
      | n + 9, hx => simp [nuE] at hx) rfl rfl rfl (okNu_nuE e h hm) (fitAll_nuE e hm) 9 0 (N + 90) (by omega)
    rw [catB_nuE, encB_len, List.take_zero, show N + 90 + 1 + 9 = N + 100 by omega, k_loop] at hl
    rw [hm] at h61
    have hb := hm
    simp only [mayE, inB, Bool.and_eq_true, decide_eq_true_eq] at hb
    have w : ∀ n : Int, 0 ≤ n → n ≤ 1073741824 → IntKind.u64.wrap n = n := fun n h0 h1 => by rw [IntKind.wrap_u64]; omega
    have w1 := w e.kind (by omega) (by omega)
    have w2 := w e.tick (by omega) (by omega)
    have w3 := w e.epoch (by omega) (by omega)
    have w4 := w e.user (by omega) (by omega)
    have w7 := w e.cmd (by omega) (by omega)
    have w8 := w e.arg (by omega) (by omega)
    have w9 := w e.code (by omega) (by omega)
    have kl : (kL szs).length = 9 := rfl
    have kt : List.take 9 (kL szs) = kL szs := rfl
    simp only [enC] at h61 ⊢
    simp only [slv34, obv34, usE, nuL, List.map_nil, row, box] at hl
    rw [show ((0 : Nat) : Int) = 0 from rfl] at hl
    generalize kL szs = kk at *
    generalize byL (encB e) = b at *
    simp only [row] at h62
    simp -implicitDefEqProofs (maxSteps := 1000000) (disch := first | omega | rfl) [m34, h61, h62, w1, w2, w3, w4, w7, w8, w9, kl, kt, hl, box, KS, getS, getO, gS, zipN, dropW, takeW, wds, stvs, sea, seaL, refs, refsL, refsEls, refsO, isPureEls, isPures, isPure, noExt, noExts, noExtEls, cellsL, ren, renL, renEls, keepO, keepS, keysO, refsS, refsOB, cntN, headC, setS, boxO, row, putW, putB, putB1, eNl, newOs, frz, renO, noExtO, zps, zp, two32, w64, -getElem?_pos]
end
section
/-- The sum of bytes. -/
noncomputable def sumI' (ys : List Int) : List Int := endI (rounds nFirst ys).1 (rounds nFirst ys).2 ys.length
theorem V74 (N d : Nat) : sem tab N (d + 1) 74 [] [] = some (.sl 0 0 0 1, [row (byL [0]) 1 true]) := by
  rw [sem_succ tab N d 74 m74 rfl]
  simp -implicitDefEqProofs (disch := first | omega | rfl) [m74, byL, KS, getS, getO, gS, zipN, dropW, takeW, wds, stvs, sea, seaL, refs, refsL, refsEls, refsO, isPureEls, isPures, isPure, noExt, noExts, noExtEls, cellsL, ren, renL, renEls, keepO, keepS, keysO, refsS, refsOB, cntN, headC, setS, boxO, row, putW, putB, putB1, eNl, newOs, frz, renO, noExtO, zps, zp, two32, w64, -getElem?_pos]
set_option maxHeartbeats 4000000 in
theorem V45 (M d : Nat) : sem tab (M + 1000) (d + 8) 45 [] [] = some (.agg [.blob 32 (uL (sumI' [0]))], []) := by
  rw [sem_succ tab (M + 1000) (d + 7) 45 m45 rfl]
  have h1 := V74 (M + 1000) (d + 6)
  have h2 := L26 M d [0] (by decide)
  rw [show endI (rounds nFirst [0]).1 (rounds nFirst [0]).2 ([0] : List Int).length = sumI' [0] from rfl] at h2
  have bl : (byL [0]).length = 1 := rfl
  have bt : List.take 1 (byL [0]) = byL [0] := rfl
  generalize uL (sumI' [0]) = q at *
  generalize byL [0] = b at *
  simp only [row] at h1
  generalize hz : List.replicate 32 (PV.i .u8 0) = z at *
  simp -implicitDefEqProofs (maxSteps := 1000000) (disch := first | omega | rfl) [m45, h1, h2, bl, bt, hz, box, KS, getS, getO, gS, zipN, dropW, takeW, wds, stvs, sea, seaL, refs, refsL, refsEls, refsO, isPureEls, isPures, isPure, noExt, noExts, noExtEls, cellsL, ren, renL, renEls, keepO, keepS, keysO, refsS, refsOB, cntN, headC, setS, boxO, row, putW, putB, putB1, eNl, newOs, frz, renO, noExtO, zps, zp, two32, w64, -getElem?_pos]
end
section
section
variable (o v i n m : Nat)
theorem k_slcAo (ob : OB) : slc ob (.arr n) (.p o 0 0 i none) none none none = slB o i 0 n (some 0) (some n) := rfl
theorem k_sv_bs : stv (.bs o v i n) = true := rfl
theorem k_c_bs : cellsOf (.bs o v i n) = [.bs o v i n] := rfl
theorem k_wd_bs : wd (.bs o v i n) = 1 := rfl
end
/-- More rules. -/
def KV := And.intro @k_slcA (And.intro @k_slcAo (And.intro @k_slB (And.intro @k_sv_bs (And.intro @k_c_bs @k_wd_bs))))
theorem sumI'_len (ys : List Int) : (sumI' ys).length = 32 := endI_len _ _ _ (rounds_len _ nFirst ys (Nat.le_refl _) rfl).1
theorem take_u (h : List Int) (hl : h.length = 32) : ((uL h).drop 0).take 32 = uL h := by
  rw [List.drop_zero]; exact List.take_of_length_le (by rw [uL_len]; omega)
theorem map_u (h : List Int) : (uL h).map (fun v => [v]) = byL h := by simp [uL, byL]
set_option maxHeartbeats 8000000 in
theorem V66 (M d : Nat) (h bs : List Int) (hl : h.length = 32) (hb : bs.length ≤ 50000) : sem tab (M + 1000) (d + 3) 66 [.agg [.blob 32 (uL h)], .l false (byL bs)] [] = some (.sl 0 0 0 (33 + bs.length), [row (byL ([1] ++ h ++ bs)) 1 true]) := by
  rw [sem_succ tab (M + 1000) (d + 2) 66 m66 rfl]
  have h38 := L38u M d 1 h bs (by intro e; rw [e] at hl; simp at hl) (by omega)
  have ul := uL_len h
  have tu := take_u h hl
  have mu := map_u h
  rw [hl, show 1 + 32 + bs.length = 33 + bs.length by omega] at h38
  rw [hl] at ul
  have bl := byL_len ([1] ++ h ++ bs)
  simp only [List.length_append, List.length_singleton, hl] at bl
  have tk : List.take (33 + bs.length) (byL ([1] ++ h ++ bs)) = byL ([1] ++ h ++ bs) := List.take_of_length_le (by omega)
  have cl : 33 + bs.length ≤ (byL ([1] ++ h ++ bs)).length := by omega
  have tu0 : (uL h).take 32 = uL h := by rw [← List.drop_zero (l := uL h)]; exact tu
  generalize byL ([1] ++ h ++ bs) = w at *
  generalize byL bs = c at *
  generalize byL h = b at *
  generalize uL h = u at *
  simp -implicitDefEqProofs (maxSteps := 1000000) (disch := first | omega | rfl) [m66, box, h38, ul, tu, tu0, mu, tk, cl, KV, KS, getS, getO, gS, zipN, dropW, takeW, wds, stvs, sea, seaL, refs, refsL, refsEls, refsO, isPureEls, isPures, isPure, noExt, noExts, noExtEls, cellsL, ren, renL, renEls, keepO, keepS, keysO, refsS, refsOB, cntN, headC, setS, boxO, row, putW, putB, putB1, eNl, newOs, frz, renO, noExtO, zps, zp, two32, w64, -getElem?_pos]
end
section
/-- The head with one entry more. -/
noncomputable def linkH (h : List Int) (e : En) : List Int := sumI' ([1] ++ h ++ encB e)
theorem linkH_len (h : List Int) (e : En) : (linkH h e).length = 32 := sumI'_len _
def zero32L : List Int := List.replicate 32 0
theorem L26' (M d : Nat) (ys : List Int) (h : ys.length ≤ 57600) : sem tab (M + 1000) (d + 7) 35 [.l false (byL ys)] [] = some (.agg [.blob 32 (uL (sumI' ys))], []) := L26 M d ys h
/-- The head with one entry more, or none. -/
noncomputable def linkC (h : List Int) (e : En) : List Int := cond (mayE e) (linkH h e) zero32L
set_option maxHeartbeats 8000000 in
theorem V36 (M d : Nat) (h : List Int) (e : En) (hl : h.length = 32) (ho : okE e) : sem tab (M + 1000) (d + 8) 36 [.agg [.blob 32 (uL h)], .agg (enC e)] [] = some (.tup [.agg [.blob 32 (uL (linkC h e))], .b (mayE e)], []) := by
  rw [sem_succ tab (M + 1000) (d + 7) 36 m36 rfl]
  have h34 := V34 (M + 900) (d + 3) e ho
  rw [show M + 900 + 100 = M + 1000 by omega, show d + 3 + 4 = d + 7 by omega] at h34
  have h66 := V66 M (d + 4) h (encB e) hl (by rw [encB_len]; omega)
  have h35 := L26' M d ([1] ++ h ++ encB e) (by simp [hl, encB_len])
  rw [← linkH] at h35
  rw [encB_len] at h66
  have bl := byL_len ([1] ++ h ++ encB e)
  simp only [List.length_append, List.length_singleton, hl, encB_len] at bl
  have be := byL_len (encB e)
  rw [encB_len] at be
  have tk : List.take 63 (byL ([1] ++ h ++ encB e)) = byL ([1] ++ h ++ encB e) := List.take_of_length_le (by omega)
  have te : List.take 30 (byL (encB e)) = byL (encB e) := List.take_of_length_le (by omega)
  have ul := uL_len h
  rw [hl] at ul
  simp only [linkC]
  generalize byL ([1] ++ h ++ encB e) = w at *
  generalize byL (encB e) = b at *
  generalize linkH h e = q at *
  generalize uL h = u at *
  simp only [row] at h34 h66
  have hz : List.replicate 32 (PV.i .u8 0) = uL zero32L := by simp [uL, zero32L]
  cases hm : mayE e <;> rw [hm] at h34 <;> simp only [enC, cond_true, cond_false] at h34 ⊢
  · rw [← hz]
    generalize hz' : List.replicate 32 (PV.i .u8 0) = z at *
    simp -implicitDefEqProofs (maxSteps := 1000000) (disch := first | omega | rfl) [m36, hz', h34, KV, KS, getS, getO, gS, zipN, dropW, takeW, wds, stvs, sea, seaL, refs, refsL, refsEls, refsO, isPureEls, isPures, isPure, noExt, noExts, noExtEls, cellsL, ren, renL, renEls, keepO, keepS, keysO, refsS, refsOB, cntN, headC, setS, boxO, row, putW, putB, putB1, eNl, newOs, frz, renO, noExtO, zps, zp, two32, w64, -getElem?_pos]
  · generalize uL q = r at *
    generalize hz' : List.replicate 32 (PV.i .u8 0) = z at *
    simp -implicitDefEqProofs (maxSteps := 1000000) (disch := first | omega | rfl) [m36, hz', h34, h66, h35, bl, be, tk, te, box, KV, KS, getS, getO, gS, zipN, dropW, takeW, wds, stvs, sea, seaL, refs, refsL, refsEls, refsO, isPureEls, isPures, isPure, noExt, noExts, noExtEls, cellsL, ren, renL, renEls, keepO, keepS, keysO, refsS, refsOB, cntN, headC, setS, boxO, row, putW, putB, putB1, eNl, newOs, frz, renO, noExtO, zps, zp, two32, w64, -getElem?_pos]
end
section
theorem k_fin3 (ob : OB) (w w' w'' : Nat) (ws : List Nat) (u u' u'' : PV) : fin ob 0 (w :: w' :: w'' :: ws) [u, u', u''] = bnd (resO 0 ob (refs u ++ (refs u' ++ refs u'')) 0 w u) fun a => bnd (resO 0 ob (refs u ++ (refs u' ++ refs u'')) a.2.length w' u') fun b => bnd (resO 0 ob (refs u ++ (refs u' ++ refs u'')) (a.2.length + b.2.length) w'' u'') fun c => some (.tup [a.1, b.1, c.1], a.2 ++ (b.2 ++ c.2)) := by
  simp only [fin, refsL, List.append_nil, refsOuts, resOs, outOs, List.headD_cons, List.tail_cons, Nat.zero_add]
  cases resO 0 ob (refs u ++ (refs u' ++ refs u'')) 0 w u with
  | none => rfl
  | some r =>
    simp only [k_bnd]
    cases resO 0 ob (refs u ++ (refs u' ++ refs u'')) r.2.length w' u' with
    | none => rfl
    | some q =>
      simp only [k_bnd]
      cases resO 0 ob (refs u ++ (refs u' ++ refs u'')) (r.2.length + q.2.length) w'' u'' with
      | none => rfl
      | some q => simp [one, k_bnd]
set_option maxHeartbeats 4000000 in
theorem L38w (N d : Nat) (xs ys : List Int) (hx : xs ≠ []) (hy : ys ≠ []) (h : xs.length + ys.length ≤ 4294967296) : sem tab (N + 4) (d + 2) 59 [.l false [[.l false []], [.l false (byL xs)], [.l false (byL ys)]]] [] = some (.sl 0 0 0 (xs.length + ys.length), [row (byL (xs ++ ys)) 1 true]) := by
  rw [sem_succ tab (N + 4) (d + 1) 59 m59 rfl]
  have lx := byL_len xs
  have ly := byL_len ys
  have fx := flat_by xs
  have fy := flat_by ys
  have wx := allW_by xs
  have wy := allW_by ys
  have hap : byL (xs ++ ys) = byL xs ++ byL ys := by simp [byL]
  have hxl : 0 < xs.length := List.length_pos_iff.2 hx
  have hyl : 0 < ys.length := List.length_pos_iff.2 hy
  rw [hap]
  generalize byL xs = a at *
  generalize byL ys = b at *
  rw [← lx] at hxl
  rw [← ly] at hyl
  rw [← lx, ← ly] at h ⊢
  have ha : ¬ a = [] := by rintro rfl; simp at hxl
  have hb : ¬ b = [] := by rintro rfl; simp at hyl
  have n1 : ¬ ((a.length : Int) < 0) := by omega
  have n3 : ¬ ((b.length : Int) < 0) := by omega
  have n2 : ¬ ((a.length : Int) + b.length < 0) := by omega
  have h1 : a.length ≤ 4294967296 := by omega
  have h2 : b.length ≤ 4294967296 := by omega
  have h3 : ¬ (a.length + b.length ≤ a.length) := by omega
  have t1 : List.take a.length a = a := List.take_length
  have t2 : List.take (a.length + b.length) (a ++ b) = a ++ b := List.take_of_length_le (by simp)
  clear lx ly hap hx hy
  simp -implicitDefEqProofs (maxSteps := 1000000) (disch := first | omega | rfl) [m59, m59b0, m59b1, L44', allW, flatEls, n1, n2, n3, h, h1, h2, h3, fx, wx, fy, wy, ha, hb, t1, t2, KS, getS, getO, gS, zipN, dropW, takeW, wds, stvs, sea, seaL, refs, refsL, refsEls, refsO, isPureEls, isPures, isPure, noExt, noExts, noExtEls, cellsL, ren, renL, renEls, keepO, keepS, keysO, refsS, refsOB, cntN, headC, setS, boxO, row, putW, putB, putB1, eNl, newOs, frz, renO, noExtO, zps, zp, two32, w64, -getElem?_pos]
theorem L38v (M d : Nat) (ps xs ys : List Int) (hx : xs ≠ []) (hy : ys ≠ []) (h : ps.length + xs.length + ys.length ≤ 4294967295) : sem tab (M + 1000) (d + 2) 59 [.l false [[.l false (byL ps)], [.l false (byL xs)], [.l false (byL ys)]]] [] = some (.sl 0 0 0 (ps.length + xs.length + ys.length), [row (byL (ps ++ xs ++ ys)) 1 true]) := by
  by_cases hp : ps = []
  · subst hp
    have := L38w (M + 996) d xs ys hx hy (by simp at h; omega)
    rw [show ([] : List Int).length + xs.length + ys.length = xs.length + ys.length by simp]
    exact this
  · exact L38t (M + 996) d ps xs ys hp hx (by omega)
end
section
def enL (l : List En) : List (List PV) := l.map enC
theorem enL_len (l : List En) : (enL l).length = l.length := by simp [enL]
theorem enL_get (l : List En) (i : Nat) (h : i < l.length) : (enL l)[i]? = some (enC l[i]) := by simp [enL, h]
theorem allW_en (l : List En) : allW 9 (enL l) = true := by
  induction l with
  | nil => rfl
  | cons x r ih => simp only [enL, List.map_cons, enC, allW, wds, wd]; exact ih
/-- The head of entries, and their records. -/
noncomputable def hdL : List Int → List En → List Int
  | h, [] => h
  | h, e :: r => hdL (linkH h e) r
noncomputable def recL : List Int → List En → List Int
  | _, [] => []
  | h, e :: r => encB e ++ linkH h e ++ recL (linkH h e) r
theorem hdL_len : ∀ (l : List En) (h : List Int), h.length = 32 → (hdL h l).length = 32
  | [], h, hh => hh
  | e :: r, h, _ => hdL_len r _ (linkH_len h e)
theorem recL_len : ∀ (l : List En) (h : List Int), (recL h l).length = 62 * l.length
  | [], _ => rfl
  | e :: r, h => by simp only [recL, List.length_append, encB_len, linkH_len, recL_len r, List.length_cons]; omega
noncomputable def h0 : List Int := sumI' [0]
theorem h0_len : h0.length = 32 := sumI'_len _
def sl32p (xs : List (List PV)) (m i n : Nat) : SL := [(3, .p 88 0 0 0 none), (5, .sl 111 0 0 m), (6, .p 112 0 0 0 none), (18, .l false xs), (19, .i .i64 n), (20, .i .i64 i)]
def ob32p (z : List PV) (out : List Int) (h : List PV) : OB := [(111, row (byL out) 1 true), (88, box [.blob 32 z] 32), (112, box [.blob 32 h] 32)]
set_option maxHeartbeats 16000000 in
theorem stepv32 (M d : Nat) (g : SL → OB → Option R) (xs : List (List PV)) (z : List PV) (out h : List Int) (i n : Nat) (e : En) (hx : xs[i]? = some (enC e)) (hi : i < n) (hn : n < 1000) (ho : okE e) (hl : h.length = 32) (hz : z.length = 32) (hou : out.length ≤ 50000) :
    m32b0 (sem tab (M + 1000) (d + 8)) (M + 1000) [] g (sl32p xs out.length i n) (ob32p z out (uL h)) = cond (mayE e) (g (sl32p xs (out ++ encB e ++ linkH h e).length (i + 1) n) (ob32p z (out ++ encB e ++ linkH h e) (uL (linkH h e)))) (some (.tup [.sl 0 0 0 0, .agg [.blob 32 (uL zero32L)], .b false], [row [] 1 true])) := by
  have h36 := V36 M d h e hl ho
  have h34 := V34 (M + 900) (d + 4) e ho
  rw [show M + 900 + 100 = M + 1000 by omega, show d + 4 + 4 = d + 8 by omega] at h34
  have hne : encB e ≠ [] := by intro e'; have := encB_len e; rw [e'] at this; simp at this
  have hnl : linkH h e ≠ [] := by intro e'; have := linkH_len h e; rw [e'] at this; simp at this
  have h59 := L38v M (d + 6) out (encB e) (linkH h e) hne hnl (by rw [encB_len, linkH_len]; omega)
  rw [encB_len, linkH_len] at h59
  have w2 := w64n (i := i) (by omega)
  have ci : (i : Int) < n := by omega
  have lo := byL_len out
  have lk := uL_len (linkC h e)
  have be := byL_len (encB e)
  rw [encB_len] at be
  have te : List.take 30 (byL (encB e)) = byL (encB e) := List.take_of_length_le (by omega)
  have ul := uL_len h
  rw [hl] at ul
  have ql := uL_len (linkH h e)
  rw [linkH_len] at ql
  have tu := take_u (linkH h e) (linkH_len h e)
  have tu0 : (uL (linkH h e)).take 32 = uL (linkH h e) := by rw [← List.drop_zero (l := uL (linkH h e))]; exact tu
  have mu := map_u (linkH h e)
  have al := byL_len (out ++ encB e ++ linkH h e)
  have all : (out ++ encB e ++ linkH h e).length = out.length + 30 + 32 := by simp [encB_len, linkH_len, Nat.add_assoc]
  have tk : List.take (out.length + 30 + 32) (byL (out ++ encB e ++ linkH h e)) = byL (out ++ encB e ++ linkH h e) := List.take_of_length_le (by omega)
  have tk0 : List.take out.length (byL out) = byL out := List.take_of_length_le (by omega)
  rw [all] at al
  simp only [sl32p, ob32p, all]
  simp only [linkC] at h36 lk
  generalize byL (out ++ encB e ++ linkH h e) = w at *
  generalize byL (encB e) = b at *
  generalize byL (linkH h e) = bq at *
  generalize byL out = o at *
  generalize uL h = u at *
  have hz0 : List.replicate 32 (PV.i .u8 0) = uL zero32L := by simp [uL, zero32L]
  obtain ⟨e1, e2, e3, e4, e5, e6, e7, e8, e9⟩ := e
  simp only [enC] at h36 h34 hx
  cases hm : mayE ⟨e1, e2, e3, e4, e5, e6, e7, e8, e9⟩ <;> rw [hm] at h34 h36 lk <;> simp only [cond_true, cond_false] at h34 h36 lk ⊢
  · rw [← hz0] at h36 lk ⊢
    generalize hz' : List.replicate 32 (PV.i .u8 0) = zz at *
    simp -implicitDefEqProofs (maxSteps := 1000000) (disch := first | omega | rfl) [m32b0, hx, ci, w2, hz', h34, h36, lk, hz, k_fin3, box, KV, KS, getS, getO, gS, zipN, dropW, takeW, wds, stvs, sea, seaL, refs, refsL, refsEls, refsO, isPureEls, isPures, isPure, noExt, noExts, noExtEls, cellsL, ren, renL, renEls, keepO, keepS, keysO, refsS, refsOB, cntN, headC, setS, boxO, row, putW, putB, putB1, eNl, newOs, frz, renO, noExtO, zps, zp, two32, w64, -getElem?_pos]
  · generalize uL (linkH h _) = q at *
    generalize hz' : List.replicate 32 (PV.i .u8 0) = zz at *
    simp only [row] at h34 h59
    simp -implicitDefEqProofs (maxSteps := 1000000) (disch := first | omega | rfl) [m32b0, hx, ci, w2, hz', h34, h36, h59, hz, be, te, ul, ql, tu, tu0, mu, al, tk, tk0, lo, box, KV, KS, getS, getO, gS, zipN, dropW, takeW, wds, stvs, sea, seaL, refs, refsL, refsEls, refsO, isPureEls, isPures, isPure, noExt, noExts, noExtEls, cellsL, ren, renL, renEls, keepO, keepS, keysO, refsS, refsOB, cntN, headC, setS, boxO, row, putW, putB, putB1, eNl, newOs, frz, renO, noExtO, zps, zp, two32, w64, -getElem?_pos]
end
section
set_option maxHeartbeats 8000000 in
theorem endv32 (M d : Nat) (g : SL → OB → Option R) (xs : List (List PV)) (z : List PV) (out h : List Int) (n : Nat) (hl : h.length = 32) (hz : z.length = 32) :
    m32b0 (sem tab (M + 1000) (d + 8)) (M + 1000) [] g (sl32p xs out.length n n) (ob32p z out (uL h)) = some (.tup [.sl 0 0 0 out.length, .agg [.blob 32 (uL h)], .b true], [row (byL out) 1 true]) := by
  have ul := uL_len h
  rw [hl] at ul
  have lo := byL_len out
  have tk0 : List.take out.length (byL out) = byL out := List.take_of_length_le (by omega)
  simp only [sl32p, ob32p]
  generalize byL out = o at *
  generalize uL h = u at *
  simp -implicitDefEqProofs (maxSteps := 1000000) (disch := first | omega | rfl) [m32b0, hz, ul, lo, tk0, k_fin3, box, KV, KS, getS, getO, gS, zipN, dropW, takeW, wds, stvs, sea, seaL, refs, refsL, refsEls, refsO, isPureEls, isPures, isPure, noExt, noExts, noExtEls, cellsL, ren, renL, renEls, keepO, keepS, keysO, refsS, refsOB, cntN, headC, setS, boxO, row, putW, putB, putB1, eNl, newOs, frz, renO, noExtO, zps, zp, two32, w64, -getElem?_pos]
/-- What is told where an entry may not be. -/
def noPut : Option R := some (.tup [.sl 0 0 0 0, .agg [.blob 32 (uL zero32L)], .b false], [row [] 1 true])
def yesPut (out h : List Int) : Option R := some (.tup [.sl 0 0 0 out.length, .agg [.blob 32 (uL h)], .b true], [row (byL out) 1 true])
theorem loopv32 (M d : Nat) (l : List En) (z : List PV) (hl : l.length ≤ 264) (ho : ∀ e ∈ l, okE e) (hz : z.length = 32) : ∀ (k i e : Nat) (out h : List Int), i + k = l.length → h.length = 32 → out.length = 62 * i →
    loopC (m32b0 (sem tab (M + 1000) (d + 8)) (M + 1000) []) (e + 1 + k) (sl32p (enL l) out.length i l.length) (ob32p z out (uL h)) = cond ((l.drop i).all mayE) (yesPut (out ++ recL h (l.drop i)) (hdL h (l.drop i))) noPut := by
  intro k
  induction k with
  | zero =>
    intro i e out h hi hh hou
    have : i = l.length := by omega
    subst this
    rw [Nat.add_zero, k_loop, endv32 M d _ (enL l) z out h l.length hh hz, List.drop_length]
    simp [recL, hdL, yesPut]
  | succ k ih =>
    intro i e out h hi hh hou
    have hi' : i < l.length := by omega
    rw [← Nat.add_assoc, k_loop, stepv32 M d _ (enL l) z out h i l.length l[i] (enL_get l i hi') hi' (by omega) (ho _ (List.getElem_mem hi')) hh hz (by omega), List.drop_eq_getElem_cons hi', List.all_cons]
    cases hm : mayE l[i]
    · rfl
    · rw [cond_true, ih (i + 1) e _ _ (by omega) (linkH_len _ _) (by simp [encB_len, linkH_len]; omega)]
      simp [recL, hdL, List.append_assoc]
set_option maxHeartbeats 8000000 in
theorem V32 (M d : Nat) (l : List En) (hl : l.length ≤ 264) (ho : ∀ e ∈ l, okE e) : sem tab (M + 1000) (d + 9) 32 [.l false (enL l)] [] = cond (l.all mayE) (yesPut (recL h0 l) (hdL h0 l)) noPut := by
  rw [sem_succ tab (M + 1000) (d + 8) 32 m32 rfl]
  have h45 := V45 M d
  rw [show sumI' [0] = h0 from rfl] at h45
  have hz : (List.replicate 32 (PV.i IntKind.u8 0)).length = 32 := rfl
  have h := loopv32 M d l (List.replicate 32 (.i .u8 0)) hl ho hz l.length 0 (M + 999 - l.length) [] h0 (by omega) h0_len rfl
  rw [show M + 999 - l.length + 1 + l.length = M + 1000 by omega, List.drop_zero, List.nil_append] at h
  have hn := enL_len l
  have ul := uL_len h0
  rw [h0_len] at ul
  have ng : ¬ (264 : Int) < l.length := by omega
  have ng' : ¬ (l.length : Int) > 264 := by omega
  rw [← h]
  rw [← hn] at ng ng' ⊢
  simp only [sl32p, ob32p, List.length_nil]
  simp only [show byL [] = [] from rfl]
  generalize uL h0 = u at *
  generalize hz' : List.replicate 32 (PV.i .u8 0) = zz at *
  clear h
  generalize enL l = a at *
  simp -implicitDefEqProofs (maxSteps := 1000000) (disch := first | omega | rfl) [m32, h45, hz, hz', ul, ng, ng', box, KV, KS, getS, getO, gS, zipN, dropW, takeW, wds, stvs, sea, seaL, refs, refsL, refsEls, refsO, isPureEls, isPures, isPure, noExt, noExts, noExtEls, cellsL, ren, renL, renEls, keepO, keepS, keysO, refsS, refsOB, cntN, headC, setS, boxO, row, putW, putB, putB1, eNl, newOs, frz, renO, noExtO, zps, zp, two32, w64, -getElem?_pos]
end
section
/-- Are two entries the same? -/
def eqE (e f : En) : Bool := e.kind == f.kind && (e.tick == f.tick && (e.epoch == f.epoch && (e.user == f.user && (e.sess == f.sess && (e.count == f.count && (e.cmd == f.cmd && (e.arg == f.arg && (e.code == f.code && true))))))))
theorem eqE_iff (e f : En) : eqE e f = true ↔ e = f := by
  obtain ⟨e1, e2, e3, e4, e5, e6, e7, e8, e9⟩ := e
  obtain ⟨f1, f2, f3, f4, f5, f6, f7, f8, f9⟩ := f
  simp [eqE]
theorem k_est (neg : Bool) (e f : En) : eSt neg [.i, .i, .i, .i, .i, .i, .i, .i, .i] (.agg (enC e)) (.agg (enC f)) = some (.b (eqE e f ^^ neg)) := rfl
/-- Are two lists of entries the same? -/
def sameL : List En → List En → Bool
  | [], [] => true
  | x :: r, y :: s => eqE x y && sameL r s
  | _, _ => false
theorem sameL_iff : ∀ l m : List En, sameL l m = true ↔ l = m
  | [], [] => by simp [sameL]
  | [], _ :: _ => by simp [sameL]
  | _ :: _, [] => by simp [sameL]
  | x :: r, y :: s => by simp [sameL, eqE_iff, sameL_iff r s]
theorem sameL_len : ∀ l m : List En, l.length ≠ m.length → sameL l m = false := by
  intro l m h
  cases hs : sameL l m with
  | false => rfl
  | true => exact absurd ((sameL_iff l m).1 hs ▸ rfl) h
theorem V72 (N d : Nat) (xs ys : List Int) : sem tab N (d + 1) 72 [.l false (byL xs), .l false (byL ys)] [] = some (.b (decide (chars xs = chars ys)), []) := by
  rw [sem_succ tab N d 72 m72 rfl]
  have hx := unB_by xs
  have hy := unB_by ys
  generalize byL xs = a at *
  generalize byL ys = b at *
  generalize chars xs = p at *
  generalize chars ys = q at *
  simp -implicitDefEqProofs (maxSteps := 1000000) (disch := first | omega | rfl) [m72, hx, hy, KS, getS, getO, gS, zipN, dropW, takeW, wds, stvs, sea, seaL, refs, refsL, refsEls, refsO, isPureEls, isPures, isPure, noExt, noExts, noExtEls, cellsL, ren, renL, renEls, keepO, keepS, keysO, refsS, refsOB, cntN, headC, setS, boxO, row, putW, putB, putB1, eNl, newOs, frz, renO, noExtO, zps, zp, two32, w64, -getElem?_pos]
theorem chars_injV : ∀ xs ys : List Int, (∀ x ∈ xs, 0 ≤ x ∧ x ≤ 255) → (∀ x ∈ ys, 0 ≤ x ∧ x ≤ 255) → chars xs = chars ys → xs = ys
  | [], [], _, _, _ => rfl
  | [], _ :: _, _, _, h => by simp [chars] at h
  | _ :: _, [], _, _, h => by simp [chars] at h
  | x :: r, y :: s, hx, hy, h => by
    simp only [chars, List.map_cons, List.cons.injEq] at h
    have h1 := hx x (by simp)
    have h2 := hy y (by simp)
    have h3 := congrArg UInt8.toNat h.1
    simp at h3
    have : x = y := by omega
    rw [this, chars_injV r s (fun z hz => hx z (by simp [hz])) (fun z hz => hy z (by simp [hz])) h.2]
end
section
section
variable (o v i off n m : Nat) (ob : OB) (g : Bool) (xs : List (List PV)) (ps : List PV) (X Y : Obj') (sl : SL)
theorem k_yK (dst : Option Nat) (f : PV) (args : List PV) (K : SL → OB → Option R) : yK ob sl dst f args K = yGet ob sl dst args K f (getS sl tslot) (getO ob 0) (getO ob 1) := rfl
theorem k_yGet (dst : Option Nat) (args : List PV) (K : SL → OB → Option R) : yGet ob sl dst args K (.y 0 0 4) (.y 1 n 0) (some X) (some Y) = if X.ver = 0 ∧ Y.ver = n then yGo ob sl dst n Y K (reifies ob args) else none := rfl
theorem k_yGo (t : Nat) (as : List PV) (K : SL → OB → Option R) : yGo ob sl (some t) n X K (some (as, [])) = if as.all okT = true ∧ warm ob = true then consR as (K ((t, .y 1 (n + 1) 2) :: (tslot, .y 1 (n + 1) 1) :: sl) ((1, { X with ver := n + 1 }) :: ob)) else none := rfl
theorem k_all0 : List.all ([] : List PV) okT = true := rfl
theorem k_all1 (w : PV) (r : List PV) : List.all (w :: r) okT = (okT w && List.all r okT) := rfl
theorem k_okT : okT (.agg ps) = ps.all okC := rfl
theorem k_allC0 : List.all ([] : List PV) okC = true := rfl
theorem k_allC1 (w : PV) (r : List PV) : List.all (w :: r) okC = (okC w && List.all r okC) := rfl
theorem k_okC_i (k : IntKind) (a : Int) : okC (.i k a) = true := rfl
theorem k_okC_b (x : Bool) : okC (.b x) = true := rfl
theorem k_okC_blob : okC (.blob n ps) = true := rfl
theorem k_okC_l : okC (.l false xs) = true := rfl
theorem k_consR (x : List PV) (g : Bool) (xs : List (List PV)) (out : List Obj') : consR x (some (.tup [.un, .l g xs], out)) = some (.tup [.un, .l g (x :: xs)], out) := rfl
theorem k_yOut (r : R) : yOut (some r) = some (r.1, []) := rfl
theorem k_not3 : uO .not (.y o n 2) = some (.y o n 3) := rfl
theorem k_brYt (A B : SL → OB → Option R) : brY (.b true) A B sl ob = A sl ob := rfl
theorem k_brYf (A B : SL → OB → Option R) : brY (.b false) A B sl ob = B sl ob := rfl
theorem k_brY2 (A B : SL → OB → Option R) : brY (.y 1 n 2) A B sl ob = brGo n A B sl ob (getS sl tslot) (getO ob 1) := rfl
theorem k_brY3 (A B : SL → OB → Option R) : brY (.y 1 n 3) A B sl ob = brGo n B A sl ob (getS sl tslot) (getO ob 1) := rfl
theorem k_brGo (A B : SL → OB → Option R) : brGo n A B sl ob (.y 1 m 1) (some X) = if m = n ∧ X.ver = n then goStop (A ((tslot, .y 1 n 0) :: sl) ob) (B sl ob) else none := rfl
theorem k_goStop (G : Option R) (r : R) : goStop G (some r) = G := rfl
theorem k_dis (as' bs : List PV) : dis as' bs = if ((refsL as').any ((refsL bs).contains ·)) = true then none else some () := rfl
theorem k_warm : warm ob = (keysO ob).all fun o => match getO ob o with | some x => !x.fro | none => true := rfl
end
/-- Rules of loops over functions. -/
def KY := And.intro @k_yK (And.intro @k_yGet (And.intro @k_yGo (And.intro @k_all0 (And.intro @k_all1 (And.intro @k_okT (And.intro @k_allC0 (And.intro @k_allC1 (And.intro @k_okC_i (And.intro @k_okC_b (And.intro @k_okC_blob (And.intro @k_okC_l (And.intro @k_yOut (And.intro @k_not3 (And.intro @k_brYt (And.intro @k_brYf (And.intro @k_brY2 (And.intro @k_brY3 (And.intro @k_brGo (And.intro @k_dis @k_goStop)))))))))))))))))))
/-- The steps hand on to a loop. -/
theorem V60 (N d : Nat) (xs : List (List PV)) : sem tab N (d + 1) 60 [.l false xs] [] = some (.fn 81 [] [.p 0 0 0 0 none], [box [.l false xs] 1]) := by
  rw [sem_succ tab N d 60 m60 rfl]
  simp -implicitDefEqProofs (maxSteps := 1000000) (disch := first | omega | rfl) [m60, box, KS, getS, getO, gS, zipN, dropW, takeW, wds, stvs, sea, seaL, refs, refsL, refsEls, refsO, isPureEls, isPures, isPure, noExt, noExts, noExtEls, cellsL, ren, renL, renEls, keepO, keepS, keysO, refsS, refsOB, cntN, headC, setS, boxO, row, putW, putB, putB1, eNl, newOs, frz, renO, noExtO, zps, zp, two32, w64, -getElem?_pos]
  simp [finG, reach, refsL, refs, refsEls, refsO, getOs, idx, renL, ren, renEls, renO, stvs, stv, one, getO]
end
section
/-- A record that is read. -/
abbrev St' := En × List Int × Int
def stC (s : St') : List PV := enC s.1 ++ [.blob 32 (uL s.2.1), .i .i64 s.2.2]
/-- The entry at the front, the tag behind it. -/
def frE (bs : List Int) : En := getE (bs.take 30)
def tgE (bs : List Int) : List Int := (bs.take 62).drop 30
noncomputable def stepsL : Nat → List Int → List Int → List St'
  | 0, _, _ => []
  | k + 1, h, bs => if bs.length < 62 then [] else cond (mayE (frE bs)) (cond (decide (chars (linkH h (frE bs)) = chars (tgE bs))) ((frE bs, linkH h (frE bs), 0) :: stepsL k (linkH h (frE bs)) (bs.drop 62)) [(frE bs, linkH h (frE bs), 7)]) [(zeE, zero32L, 3)]
def stL (l : List St') : List (List PV) := l.map fun s => [.agg (stC s)]
def sl81 (n i : Nat) : SL := [(0, .y 0 0 4), (1, .p 2 0 0 0 none), (3, .p 88 0 0 0 none), (4, .i .i64 i), (1000000, .y 1 n 0)]
def ob81 (n : Nat) (h : List PV) (xs : List (List PV)) : OB := [(88, box [.blob 32 h] 32), (0, lpO), (1, { lpO with ver := n }), (2, box [.l false xs] 1)]
def noMore : Option R := some (.tup [.un, .l false []], [])
set_option maxHeartbeats 16000000 in
theorem stepv81 (M d : Nat) (g : SL → OB → Option R) (os : List Obj') (h bs : List Int) (n i : Nat) (hl : h.length = 32) (hi : i < 264) (hb : 62 ≤ bs.length) (hbl : bs.length ≤ 100000) (hr : ∀ x ∈ bs, 0 ≤ x ∧ x ≤ 255) :
    m81b0 (sem tab (M + 1000) (d + 8)) (M + 1000) os g (sl81 n i) (ob81 n (uL h) (byL bs)) = cond (mayE (frE bs)) (cond (decide (chars (linkH h (frE bs)) = chars (tgE bs))) (consR [.agg (stC (frE bs, linkH h (frE bs), 0))] (g (sl81 (n + 1) (i + 1)) (ob81 (n + 1) (uL (linkH h (frE bs))) (byL (bs.drop 62))))) (consR [.agg (stC (frE bs, linkH h (frE bs), 7))] noMore)) (consR [.agg (stC (zeE, zero32L, 3))] noMore) := by
  have h82 := V82 (M + 900) (d + 4) (bs.take 30) (by rw [List.length_take]; omega) (fun x hx => hr x (List.mem_of_mem_take hx))
  rw [show M + 900 + 100 = M + 1000 by omega, show d + 4 + 4 = d + 8 by omega] at h82
  have ho : okE (frE bs) := by
    have v : ∀ k, k ≤ 18 → 0 ≤ vAt (bs.take 30) k 8 ∧ vAt (bs.take 30) k 8 < 18446744073709551616 := fun k hk => by
      have hv := val_range (((bs.take 30).drop k).take 8) (fun x hx => hr x (List.mem_of_mem_take (List.mem_of_mem_drop (List.mem_of_mem_take hx))))
      have hl : (((bs.take 30).drop k).take 8).length = 8 := by simp only [List.length_take, List.length_drop]; omega
      rw [hl] at hv
      exact hv
    exact ⟨(v 10 (by omega)).1, (v 10 (by omega)).2, (v 18 (by omega)).1, (v 18 (by omega)).2⟩
  have h36 := V36 M d h (frE bs) hl ho
  have h72 := V72 (M + 1000) (d + 7) (linkH h (frE bs)) (tgE bs)
  have w2 := w64n (i := i) (by omega)
  have ci : (i : Int) < 264 := by omega
  have lb := byL_len bs
  have cb : (bs.length : Int) ≥ 62 := by omega
  have cb' : (62 : Int) ≤ bs.length := by omega
  have wb := allW_by bs
  have t1 : (byL bs).take 30 = byL (bs.take 30) := byL_take bs 30
  have t2 : ((byL bs).take 62).drop 30 = byL (tgE bs) := by rw [byL_take, byL_drop]; rfl
  have t3 : (byL bs).drop 62 = byL (bs.drop 62) := byL_drop bs 62
  have tt : List.take bs.length (byL bs) = byL bs := List.take_of_length_le (by omega)
  have c30 : (30 : Int) ≤ (byL bs).length := by omega
  have c62 : (62 : Int) ≤ (byL bs).length := by omega
  have ul := uL_len h
  rw [hl] at ul
  have ql := uL_len (linkH h (frE bs))
  rw [linkH_len] at ql
  have tu := take_u (linkH h (frE bs)) (linkH_len h (frE bs))
  have tu0 : (uL (linkH h (frE bs))).take 32 = uL (linkH h (frE bs)) := by rw [← List.drop_zero (l := uL (linkH h (frE bs)))]; exact tu
  have mu := map_u (linkH h (frE bs))
  change sem tab (M + 1000) (d + 8) _ _ _ = some (.tup [.agg (enC (cond (mayE (frE bs)) (frE bs) zeE)), .b (mayE (frE bs))], []) at h82
  simp only [sl81, ob81, linkC, stC] at h36 ⊢
  rw [← lb] at cb cb' tt
  rw [← t1] at h82
  rw [← t2, ← mu] at h72
  rw [← t3]
  generalize chars (linkH h (frE bs)) = p at *
  generalize chars (tgE bs) = q at *
  clear t1 t2 t3 mu
  generalize linkH h (frE bs) = k at *
  generalize frE bs = e at *
  generalize byL bs = b at *
  clear lb hb hbl hr ho
  generalize uL h = u at *
  have hz0 : uL zero32L = List.replicate 32 (PV.i .u8 0) := by simp [uL, zero32L]
  have hzl : (List.replicate 32 (PV.i .u8 0)).length = 32 := rfl
  obtain ⟨e1, e2, e3, e4, e5, e6, e7, e8, e9⟩ := e
  cases hm : mayE ⟨e1, e2, e3, e4, e5, e6, e7, e8, e9⟩ <;> rw [hm] at h82 h36 <;> simp only [cond_true, cond_false, enC, zeE, List.cons_append, List.nil_append] at h82 h36 ⊢
  · rw [hz0]
    clear hz0 h36
    generalize hz' : List.replicate 32 (PV.i .u8 0) = zz at *
    simp -implicitDefEqProofs (maxSteps := 1000000) (disch := first | omega | rfl) [m81b0, noMore, lpO, tslot, h82, ci, cb, cb', wb, tt, c30, c62, hz', ul, hzl, box, k_warm, KY, KV, KS, getS, getO, gS, zipN, dropW, takeW, wds, stvs, sea, seaL, refs, refsL, refsEls, refsO, isPureEls, isPures, isPure, noExt, noExts, noExtEls, cellsL, ren, renL, renEls, keepO, keepS, keysO, refsS, refsOB, cntN, headC, setS, boxO, row, putW, putB, putB1, eNl, newOs, frz, renO, noExtO, zps, zp, two32, w64, -getElem?_pos]
  · clear hz0
    generalize uL k = q' at *
    generalize hz' : List.replicate 32 (PV.i .u8 0) = zz at *
    generalize decide (p = q) = same at *
    cases same
    · simp -implicitDefEqProofs (maxSteps := 1000000) (disch := first | omega | rfl) [m81b0, noMore, lpO, tslot, h82, h36, h72, ci, cb, cb', wb, tt, c30, c62, hz', ul, ql, tu, tu0, hzl, box, k_warm, KY, KV, KS, getS, getO, gS, zipN, dropW, takeW, wds, stvs, sea, seaL, refs, refsL, refsEls, refsO, isPureEls, isPures, isPure, noExt, noExts, noExtEls, cellsL, ren, renL, renEls, keepO, keepS, keysO, refsS, refsOB, cntN, headC, setS, boxO, row, putW, putB, putB1, eNl, newOs, frz, renO, noExtO, zps, zp, two32, w64, -getElem?_pos]
    · simp -implicitDefEqProofs (maxSteps := 1000000) (disch := first | omega | rfl) [m81b0, noMore, lpO, tslot, w2, h82, h36, h72, ci, cb, cb', wb, tt, c30, c62, hz', ul, ql, tu, tu0, hzl, box, k_warm, KY, KV, KS, getS, getO, gS, zipN, dropW, takeW, wds, stvs, sea, seaL, refs, refsL, refsEls, refsO, isPureEls, isPures, isPure, noExt, noExts, noExtEls, cellsL, ren, renL, renEls, keepO, keepS, keysO, refsS, refsOB, cntN, headC, setS, boxO, row, putW, putB, putB1, eNl, newOs, frz, renO, noExtO, zps, zp, two32, w64, -getElem?_pos]
end
section
set_option maxHeartbeats 16000000 in
theorem endv81 (M d : Nat) (g : SL → OB → Option R) (os : List Obj') (h bs : List Int) (n i : Nat) (hl : h.length = 32) (hi : bs.length < 62 ∨ 264 ≤ i) :
    m81b0 (sem tab (M + 1000) (d + 8)) (M + 1000) os g (sl81 n i) (ob81 n (uL h) (byL bs)) = noMore := by
  have lb := byL_len bs
  simp only [sl81, ob81]
  rw [← lb] at hi
  generalize byL bs = b at *
  generalize uL h = u at *
  by_cases c : b.length < 62
  · have cb : ¬ (b.length : Int) ≥ 62 := by omega
    have cb' : ¬ (62 : Int) ≤ b.length := by omega
    simp -implicitDefEqProofs (maxSteps := 1000000) (disch := first | omega | rfl) [m81b0, noMore, lpO, tslot, cb, cb', box, KY, KV, KS, getS, getO, gS, zipN, dropW, takeW, wds, stvs, sea, seaL, refs, refsL, refsEls, refsO, isPureEls, isPures, isPure, noExt, noExts, noExtEls, cellsL, ren, renL, renEls, keepO, keepS, keysO, refsS, refsOB, cntN, headC, setS, boxO, row, putW, putB, putB1, eNl, newOs, frz, renO, noExtO, zps, zp, two32, w64, -getElem?_pos]
  · have cb : (b.length : Int) ≥ 62 := by omega
    have cb' : (62 : Int) ≤ b.length := by omega
    have ci : ¬ (i : Int) < 264 := by omega
    simp -implicitDefEqProofs (maxSteps := 1000000) (disch := first | omega | rfl) [m81b0, noMore, lpO, tslot, cb, cb', ci, box, KY, KV, KS, getS, getO, gS, zipN, dropW, takeW, wds, stvs, sea, seaL, refs, refsL, refsEls, refsO, isPureEls, isPures, isPure, noExt, noExts, noExtEls, cellsL, ren, renL, renEls, keepO, keepS, keysO, refsS, refsOB, cntN, headC, setS, boxO, row, putW, putB, putB1, eNl, newOs, frz, renO, noExtO, zps, zp, two32, w64, -getElem?_pos]
theorem consR_st (s : St') (l : List St') : consR [.agg (stC s)] (some (.tup [.un, .l false (stL l)], [])) = some (.tup [.un, .l false (stL (s :: l))], []) := rfl
theorem loopv81 (M d : Nat) (os : List Obj') : ∀ (k i n e : Nat) (h bs : List Int), i + k = 264 → h.length = 32 → bs.length ≤ 100000 → (∀ x ∈ bs, 0 ≤ x ∧ x ≤ 255) →
    loopC (m81b0 (sem tab (M + 1000) (d + 8)) (M + 1000) os) (e + 1 + k) (sl81 n i) (ob81 n (uL h) (byL bs)) = some (.tup [.un, .l false (stL (stepsL k h bs))], []) := by
  intro k
  induction k with
  | zero =>
    intro i n e h bs hi hh hb hr
    rw [Nat.add_zero, k_loop, endv81 M d _ os h bs n i hh (.inr (by omega))]
    rfl
  | succ k ih =>
    intro i n e h bs hi hh hb hr
    rw [← Nat.add_assoc, k_loop, stepsL]
    by_cases c : bs.length < 62
    · rw [endv81 M d _ os h bs n i hh (.inl c), if_pos c]; rfl
    · rw [stepv81 M d _ os h bs n i hh (by omega) (by omega) hb hr, if_neg c]
      cases mayE (frE bs)
      · rfl
      · cases decide (chars (linkH h (frE bs)) = chars (tgE bs))
        · rfl
        · simp only [cond_true]
          rw [ih (i + 1) (n + 1) e _ _ (by omega) (linkH_len _ _) (by rw [List.length_drop]; omega) (fun x hx => hr x (List.mem_of_mem_drop hx)), consR_st]
set_option maxHeartbeats 8000000 in
theorem V81 (M d : Nat) (bs : List Int) (hb : bs.length ≤ 100000) (hr : ∀ x ∈ bs, 0 ≤ x ∧ x ≤ 255) : sem tab (M + 1000) (d + 9) 81 [.y 0 0 4, .p 2 0 0 0 none] [lpO, lpO, box [.l false (byL bs)] 1] = some (.tup [.un, .l false (stL (stepsL 264 h0 bs))], []) := by
  rw [sem_succ tab (M + 1000) (d + 8) 81 m81 rfl]
  have h45 := V45 M d
  rw [show sumI' [0] = h0 from rfl] at h45
  have h := loopv81 M d [lpO, lpO, box [.l false (byL bs)] 1] 264 0 0 (M + 735) h0 bs (by omega) h0_len hb hr
  rw [show M + 735 + 1 + 264 = M + 1000 by omega] at h
  have ul := uL_len h0
  rw [h0_len] at ul
  have hz : (List.replicate 32 (PV.i IntKind.u8 0)).length = 32 := rfl
  generalize stL (stepsL 264 h0 bs) = a at *
  simp only [sl81, ob81, lpO] at h ⊢
  generalize uL h0 = u at *
  generalize hz' : List.replicate 32 (PV.i .u8 0) = zz at *
  generalize byL bs = b at *
  simp only [box] at h
  rw [show ((0 : Nat) : Int) = 0 from rfl, k_loop] at h
  simp -implicitDefEqProofs (maxSteps := 1000000) (disch := first | omega | rfl) [m81, h45, h, hz, hz', ul, box, KY, KV, KS, getS, getO, gS, zipN, dropW, takeW, wds, stvs, sea, seaL, refs, refsL, refsEls, refsO, isPureEls, isPures, isPure, noExt, noExts, noExtEls, cellsL, ren, renL, renEls, keepO, keepS, keysO, refsS, refsOB, cntN, headC, setS, boxO, row, putW, putB, putB1, eNl, newOs, frz, renO, noExtO, zps, zp, two32, w64, -getElem?_pos]
end
section
section
variable (B : (OB → Option R) → SL → SL → OB → Option R) (ps : List Nat) (hd : Hd) (Kn : SL → OB → Option R) (sl : SL) (ob : OB)
theorem k_rounds0 : rounds' B ps hd Kn [] sl ob = Kn sl ob := rfl
theorem k_rounds1 (x : List PV) (r : List (List PV)) : rounds' B ps hd Kn (x :: r) sl ob = if x.length = ps.length then B (fun ob => normK (rounds' B ps hd Kn r) hd sl ob) sl (zipS ps x sl) ob else none := rfl
theorem k_rgO (ids : List Nat) (xs : List (List PV)) : rgO B ps hd Kn sl ob (some (ids, xs)) = normK (rounds' B ps hd Kn xs) hd (delS ids sl) (delO ids ob) := rfl
end
/-- A loop over the steps of bytes, made with one call. -/
theorem rgF_steps (Φ : Sem') (ob : OB) (o : Nat) (b a : List (List PV)) (h1 : getO ob rp = none) (h2 : getO ob rq = none) (h3 : getO ob o = some (box [.l false b] 1)) (h64 : 64 ≤ o) (hp : o ≠ rp) (hq : o ≠ rq)
    (h4 : (refsOB (delO [rp, rq, o] ob)).any ([rp, rq, o].contains ·) = false)
    (h : Φ 81 [.y 0 0 4, .p 2 0 0 0 none] [lpO, lpO, box [.l false b] 1] = some (.tup [.un, .l false a], [])) :
    rgF Φ ob (.fn 81 [] [.p o 0 0 0 none]) = some ([rp, rq, o], a) := by
  have e1 : (o == rp) = false := by simpa using hp
  have e2 : (o == rq) = false := by simpa using hq
  have hp' : ¬ rp = o := fun e => hp e.symm
  have hq' : ¬ rq = o := fun e => hq e.symm
  have hpq : ¬ rp = rq := by decide
  have hqp : ¬ rq = rp := by decide
  have r1 : reach ((rp, lpO) :: (rq, lpO) :: ob) 20 [rp, rq, o] [] = some [rp, rq, o] := by
    simp [reach, getO, lpO, refsO, hp, hq, hp', hq', hpq, hqp, h3, box, refsEls, refsL, refs]
  have r2 : getOs ((rp, lpO) :: (rq, lpO) :: ob) [rp, rq, o] = some [lpO, lpO, box [.l false b] 1] := by
    simp [getOs, getO, hp', hq', hpq, h3]
  simp only [rgF, h1, h2, rgNo, refsL, refs, List.append_nil]
  rw [r1]
  simp only [rgRun]
  rw [r2]
  simp only [rgOs, h4]
  have ren1 : renL (idx [rp, rq, o]) [.y rp 0 4, .p o 0 0 0 none] = [.y 0 0 4, .p 2 0 0 0 none] := by simp [renL, ren, idx, hp', hq', hpq]
  have ren2 : ([lpO, lpO, box [.l false b] 1].map (renO (idx [rp, rq, o]))) = [lpO, lpO, box [.l false b] 1] := by simp [renO, lpO, box, renEls, renL, ren]
  rw [ren1, ren2, h]
  have k64 : decide (64 ≤ rp) = true ∧ decide (64 ≤ rq) = true := by decide
  simp [rgIt, lpO, box, h64, k64, rp, rq]
end
section
section
variable (sl : SL) (ob : OB) (b off o w n : Nat) (X : Obj') (a c : List PV) (v : PV) (r : List CC)
theorem k_normK (k : SL → OB → Option R) (h : Hd) : normK k h sl ob = bnd (headH h sl ob) fun x => k x.1 x.2 := rfl
theorem k_headH (nc : List NC) (ts os : List Nat) (cs : List CC) : headH ⟨nc, ts, os, cs⟩ sl ob = bnd (renCs cs (keepS sl ts) ob) fun y => head nc ts os y.1 y.2 := rfl
theorem k_renCs0 : renCs [] sl ob = some (sl, ob) := rfl
theorem k_renCs1 (x : CC) : renCs (x :: r) sl ob = bnd (renC x sl ob) fun y => renCs r y.1 y.2 := rfl
theorem k_renC : renC (.row b off o w) sl ob = renX sl ob b off o w (getO ob b) := rfl
theorem k_renX (el : List PV) (w' : Nat) (g : Bool) (cp : Option Nat) (vr : Nat) (f : Bool) : renX sl ob b off o w (some { els := [el], w := w', pu := false, g := g, cap := cp, ver := vr, fro := f }) = renA sl ob b o w { els := [el], w := w', pu := false, g := g, cap := cp, ver := vr, fro := f } (takeW el off) (dropW el off) := rfl
theorem k_renA : renA sl ob b o w X (some a) (some (v :: c)) = if sameC o v (getO ob o) = true then some (sl, ob)
    else if wd v = 1 ∧ 64 ≤ o ∧ b ≠ o ∧ (refsOB (delO [o] ob)).any ([o].contains ·) = false then renE (delS [o] sl) (delO [o] ob) b o X a c (asR (delO [o] ob) w v)
    else none := rfl
theorem k_renE (x : Obj') (s : List Nat) : renE sl ob b o X a c (some (x, n, s)) = if getO ob o = none ∧ 64 ≤ o ∧ s.contains b = false ∧ (refsL a ++ refsL c).any (s.contains ·) = false ∧ (refsOB (delO (b :: s) ob)).any (s.contains ·) = false then
      some (delS s sl, (o, x) :: (b, { X with els := [a ++ .sl o 0 0 n :: c] }) :: delO (b :: s) ob) else none := rfl
theorem k_sameC0 : sameC o v none = false := by cases v <;> rfl
theorem k_sameCe (z : Bool) (q : Option Obj') : sameC o (.e z) q = false := by cases q <;> rfl
theorem k_sameCs (o' vr lo : Nat) : sameC o (.sl o' vr lo n) (some X) = (o' == o && vr == 0 && lo == 0 && X.pu && !X.fro && X.ver == 0 && X.cap.isNone && n == X.els.length && decide (64 ≤ o)) := rfl
end
/-- Rules of rows in cells at heads. -/
def KZ := And.intro @k_normK (And.intro @k_headH (And.intro @k_renCs0 (And.intro @k_renCs1 (And.intro @k_renC (And.intro @k_renX (And.intro @k_renA (And.intro @k_renE (And.intro @k_sameC0 (And.intro @k_sameCe @k_sameCs)))))))))
def hdR : Hd := ⟨[], [3, 5, 6], [88, 104, 112, 111], [.row 104 0 500000 9, .row 104 0 111 9]⟩
def slR : SL := [(3, .p 88 0 0 0 none), (5, .p 104 0 0 0 none), (6, .p 112 0 0 0 none)]
def obR (z h : List PV) (m : Nat) (xs : List (List PV)) : OB := [(88, box [.blob 32 z] 32), (104, box [.sl 111 0 0 m] 1), (112, box [.blob 32 h] 32), (111, row xs 9 true)]
set_option maxHeartbeats 16000000 in
theorem stepvR (Φ : Sem') (N : Nat) (k : SL → OB → Option R) (z h : List PV) (xs : List (List PV)) (s : St') (hz : z.length = 32) (hh : h.length = 32) (hq : s.2.1.length = 32) (hm : xs.length ≤ 300) (hw : allW 9 xs = true) :
    m31r0 Φ N [] (fun ob => normK k hdR slR ob) slR ((11, .agg (stC s)) :: slR) (obR z h xs.length xs) = cond (s.2.2 == 0) (k slR (obR z (uL s.2.1) (xs ++ [enC s.1]).length (xs ++ [enC s.1]))) (some (.tup [.sl 0 0 0 xs.length, .agg [.blob 32 h], .i .i64 ((62 * xs.length : Nat) : Int)], [row xs 9 true])) := by
  obtain ⟨e, q, bad⟩ := s
  obtain ⟨e1, e2, e3, e4, e5, e6, e7, e8, e9⟩ := e
  simp only at hq
  have uq := uL_len q
  rw [hq] at uq
  have w1 : IntKind.i64.wrap ((xs.length : Int) * 62) = ((62 * xs.length : Nat) : Int) := by rw [w64 (by omega) (by omega)]; omega
  have l1 : xs.length + 1 ≤ 4294967296 := by omega
  have l2 : ¬ xs.length + 1 ≤ xs.length := by omega
  have t1 : List.take xs.length xs = xs := List.take_length
  have hzl : (List.replicate 32 (PV.i IntKind.u8 0)).length = 32 := rfl
  simp only [slR, obR, hdR, stC, enC, List.cons_append, List.nil_append]
  generalize uL q = u at *
  generalize hz' : List.replicate 32 (PV.i .u8 0) = zz at *
  cases hb : bad == 0
  · have hb' : (bad != 0) = true := by simpa using hb
    simp -implicitDefEqProofs (maxSteps := 1000000) (disch := first | omega | rfl) [m31r0, hz, hh, hzl, hz', w1, t1, hb, hb', k_fin3, box, KZ, KY, KV, KS, getS, getO, gS, zipN, dropW, takeW, wds, stvs, sea, seaL, refs, refsL, refsEls, refsO, isPureEls, isPures, isPure, noExt, noExts, noExtEls, cellsL, ren, renL, renEls, keepO, keepS, keysO, refsS, refsOB, cntN, headC, setS, boxO, row, putW, putB, putB1, eNl, newOs, frz, renO, noExtO, zps, zp, two32, w64, -getElem?_pos]
  · have hb' : (bad != 0) = false := by simpa using hb
    simp -implicitDefEqProofs (maxSteps := 1000000) (disch := first | omega | rfl) [m31r0, hz, hh, uq, hzl, hz', w1, l1, l2, t1, hw, hb, hb', delS, delO, box, KZ, KY, KV, KS, getS, getO, gS, zipN, dropW, takeW, wds, stvs, sea, seaL, refs, refsL, refsEls, refsO, isPureEls, isPures, isPure, noExt, noExts, noExtEls, cellsL, ren, renL, renEls, keepO, keepS, keysO, refsS, refsOB, cntN, headC, setS, boxO, row, putW, putB, putB1, eNl, newOs, frz, renO, noExtO, zps, zp, two32, w64, -getElem?_pos]
end
section
theorem sumI'_range (ys : List Int) (hy : ∀ x ∈ ys, 0 ≤ x ∧ x ≤ 255) : ∀ x ∈ sumI' ys, 0 ≤ x ∧ x ≤ 255 :=
  endI_range _ _ _ (rounds_len _ nFirst ys (Nat.le_refl _) rfl).1 (rounds_range _ nFirst ys (Nat.le_refl _) rfl nFirst_range hy) (rounds_rest _ nFirst ys (Nat.le_refl _) hy)
/-- The steps' entries, up to the first that is wrong; the head behind them. -/
def goodS : List St' → List St'
  | [] => []
  | s :: r => cond (s.2.2 == 0) (s :: goodS r) []
def headS (h : List Int) : List St' → List Int
  | [] => h
  | s :: r => headS s.2.1 r
/-- All heads have 32 bytes. -/
def okS (l : List St') : Prop := ∀ s ∈ l, s.2.1.length = 32
theorem okS_steps : ∀ (k : Nat) (h bs : List Int), okS (stepsL k h bs)
  | 0, _, _ => fun s hs => by simp [stepsL] at hs
  | k + 1, h, bs => by
    intro s hs
    rw [stepsL] at hs
    split at hs
    · cases hs
    · revert hs
      cases mayE (frE bs) with
      | false => intro hs; simp only [cond_false, List.mem_singleton] at hs; subst hs; rfl
      | true =>
        cases decide (chars (linkH h (frE bs)) = chars (tgE bs)) with
        | false => intro hs; simp only [cond_true, cond_false, List.mem_singleton] at hs; subst hs; exact linkH_len _ _
        | true =>
          intro hs
          simp only [cond_true, List.mem_cons] at hs
          rcases hs with rfl | hs
          · exact linkH_len _ _
          · exact okS_steps k _ _ s hs
theorem steps_len : ∀ (k : Nat) (h bs : List Int), (stepsL k h bs).length ≤ k
  | 0, _, _ => by simp [stepsL]
  | k + 1, h, bs => by
    rw [stepsL]
    split
    · simp
    · cases mayE (frE bs) with
      | false => simp
      | true =>
        cases decide (chars (linkH h (frE bs)) = chars (tgE bs)) with
        | false => simp
        | true => simpa using steps_len k _ _
def outR (h : List Int) (l : List En) : Option R := some (.tup [.sl 0 0 0 l.length, .agg [.blob 32 (uL h)], .i .i64 ((62 * l.length : Nat) : Int)], [row (enL l) 9 true])
theorem enL_app (l : List En) (e : En) : enL l ++ [enC e] = enL (l ++ [e]) := by simp [enL]
set_option maxHeartbeats 8000000 in
theorem endvR (Φ : Sem') (N : Nat) (z h : List Int) (l : List En) (hz : z.length = 32) (hh : h.length = 32) (hm : l.length ≤ 300) : m31e1 Φ N [] slR (obR (uL z) (uL h) l.length (enL l)) = outR h l := by
  have hu := uL_len h
  have hzu := uL_len z
  rw [hh] at hu
  rw [hz] at hzu
  have hl := enL_len l
  have w1 : IntKind.i64.wrap ((l.length : Int) * 62) = ((62 * l.length : Nat) : Int) := by rw [w64 (by omega) (by omega)]; omega
  have t1 : List.take l.length (enL l) = enL l := List.take_of_length_le (by omega)
  simp only [slR, obR, outR]
  generalize enL l = a at *
  generalize uL h = u at *
  generalize uL z = y at *
  simp -implicitDefEqProofs (maxSteps := 1000000) (disch := first | omega | rfl) [m31e1, hu, hzu, hl, w1, t1, k_fin3, box, KZ, KY, KV, KS, getS, getO, gS, zipN, dropW, takeW, wds, stvs, sea, seaL, refs, refsL, refsEls, refsO, isPureEls, isPures, isPure, noExt, noExts, noExtEls, cellsL, ren, renL, renEls, keepO, keepS, keysO, refsS, refsOB, cntN, headC, setS, boxO, row, putW, putB, putB1, eNl, newOs, frz, renO, noExtO, zps, zp, two32, w64, -getElem?_pos]
theorem roundsR (Φ : Sem') (N : Nat) (z : List Int) (hz : z.length = 32) : ∀ (ss : List St') (h : List Int) (l : List En), okS ss → h.length = 32 → l.length + ss.length ≤ 300 →
    rounds' (m31r0 Φ N []) [11] hdR (m31e1 Φ N []) (stL ss) slR (obR (uL z) (uL h) l.length (enL l)) = outR (headS h (goodS ss)) (l ++ (goodS ss).map (·.1)) := by
  intro ss
  induction ss with
  | nil =>
    intro h l _ hh hl
    rw [show stL [] = [] from rfl, k_rounds0, endvR Φ N z h l hz hh (by simp at hl; omega)]
    simp [goodS, headS]
  | cons s r ih =>
    intro h l ho hh hl
    simp only [List.length_cons] at hl
    rw [show stL (s :: r) = [.agg (stC s)] :: stL r from rfl, k_rounds1, if_pos (by rfl), show zipS [11] [PV.agg (stC s)] slR = (11, .agg (stC s)) :: slR from rfl]
    have h1 := stepvR Φ N (rounds' (m31r0 Φ N []) [11] hdR (m31e1 Φ N []) (stL r)) (uL z) (uL h) (enL l) s (by rw [uL_len]; exact hz) (by rw [uL_len]; exact hh) (ho s (by simp)) (by rw [enL_len]; omega) (allW_en l)
    rw [enL_len] at h1
    rw [h1, goodS]
    cases hb : s.2.2 == 0
    · simp [headS, outR]
    · rw [enL_app, enL_len, cond_true, cond_true, ih s.2.1 (l ++ [s.1]) (fun t ht => ho t (by simp [ht])) (ho s (by simp)) (by simp; omega)]
      simp [headS]
/-- What is read of bytes. -/
noncomputable def rdS (bs : List Int) : List St' := goodS (stepsL 264 h0 bs)
noncomputable def rdL (bs : List Int) : List En := (rdS bs).map (·.1)
noncomputable def rdH (bs : List Int) : List Int := headS h0 (rdS bs)
theorem hz32 : List.replicate 32 (PV.i .u8 0) = uL zero32L := by simp [uL, zero32L]
set_option maxHeartbeats 16000000 in
theorem V31 (M d : Nat) (bs : List Int) (hb : bs.length ≤ 100000) (hr : ∀ x ∈ bs, 0 ≤ x ∧ x ≤ 255) : sem tab (M + 1000) (d + 10) 31 [.l false (byL bs)] [] = outR (rdH bs) (rdL bs) := by
  rw [sem_succ tab (M + 1000) (d + 9) 31 m31 rfl]
  have h45 := V45 M (d + 1)
  rw [show sumI' [0] = h0 from rfl] at h45
  have h60 := V60 (M + 1000) (d + 8) (byL bs)
  have h81 := V81 M d bs hb hr
  have hR := roundsR (sem tab (M + 1000) (d + 9)) (M + 1000) zero32L rfl (stepsL 264 h0 bs) h0 [] (okS_steps _ _ _) h0_len (by have := steps_len 264 h0 bs; simp; omega)
  simp only [List.nil_append, List.length_nil] at hR
  rw [show outR (headS h0 (goodS (stepsL 264 h0 bs))) (List.map (fun x => x.1) (goodS (stepsL 264 h0 bs))) = outR (rdH bs) (rdL bs) from rfl] at hR
  have ul := uL_len h0
  rw [h0_len] at ul
  generalize outR (rdH bs) (rdL bs) = res at *
  generalize stL (stepsL 264 h0 bs) = a at *
  simp only [slR, obR] at hR
  simp only [hdR] at hR
  rw [show enL [] = [] from rfl] at hR
  generalize byL bs = b at *
  generalize uL h0 = u at *
  rw [← hz32] at hR
  have hzl : (List.replicate 32 (PV.i IntKind.u8 0)).length = 32 := rfl
  generalize hz' : List.replicate 32 (PV.i .u8 0) = zz at *
  have rg := rgF_steps (sem tab (M + 1000) (d + 9)) [(144, box [.l false b] 1), (112, box [.blob 32 u] 32), (112, box [.blob 32 zz] 32), (104, box [.e true] 1), (88, box [.blob 32 zz] 32)] 144 b a rfl rfl rfl (by decide) (by decide) (by decide) (by simp [delO, refsOB, refsO, box, refsEls, refsL, refs, rp, rq]) h81
  simp only [box, row] at rg hR h60
  simp -implicitDefEqProofs (maxSteps := 1000000) (disch := first | omega | rfl) [m31, h45, h60, hzl, hz', ul, rg, k_rgO, hR, delS, delO, rp, rq, box, KZ, KY, KV, KS, getS, getO, gS, zipN, dropW, takeW, wds, stvs, sea, seaL, refs, refsL, refsEls, refsO, isPureEls, isPures, isPure, noExt, noExts, noExtEls, cellsL, ren, renL, renEls, keepO, keepS, keysO, refsS, refsOB, cntN, headC, setS, boxO, row, putW, putB, putB1, eNl, newOs, frz, renO, noExtO, zps, zp, two32, w64, -getElem?_pos]
end
section
def hdV : Hd := ⟨[], [0, 2, 3, 4, 5], [80, 88, 96, 104], []⟩
def slV (b : List (List PV)) : SL := [(0, .l false b), (2, .p 80 0 0 0 none), (3, .p 88 0 0 0 none), (4, .p 96 0 0 0 none), (5, .p 104 0 0 0 none)]
def obV (z h : List PV) (n : Nat) : OB := [(80, box [.blob 32 z] 32), (88, box [.i .i64 0] 1), (96, box [.blob 32 h] 32), (104, box [.i .i64 n] 1)]
def outV (h : List PV) (e : Int) : Option R := some (.tup [.agg [.blob 32 h], .i .i64 e], [])
set_option maxHeartbeats 16000000 in
theorem stepvV (Φ : Sem') (N : Nat) (k : SL → OB → Option R) (b : List (List PV)) (z h : List PV) (n : Nat) (s : St') (hz : z.length = 32) (hh : h.length = 32) (hq : s.2.1.length = 32) (hn : n ≤ 100000) :
    m33r0 Φ N [] (fun ob => normK k hdV (slV b) ob) (slV b) ((10, .agg (stC s)) :: slV b) (obV z h n) = cond (s.2.2 == 0) (k (slV b) (obV z (uL s.2.1) (n + 62))) (outV (uL zero32L) s.2.2) := by
  obtain ⟨e, q, bad⟩ := s
  obtain ⟨e1, e2, e3, e4, e5, e6, e7, e8, e9⟩ := e
  simp only at hq
  have uq := uL_len q
  rw [hq] at uq
  have w1 : IntKind.i64.wrap ((n : Int) + 62) = ((n + 62 : Nat) : Int) := by rw [w64 (by omega) (by omega)]; omega
  have hzl : (List.replicate 32 (PV.i IntKind.u8 0)).length = 32 := rfl
  simp only [slV, obV, hdV, stC, enC, outV, List.cons_append, List.nil_append]
  generalize uL q = u at *
  rw [← hz32]
  generalize hz' : List.replicate 32 (PV.i .u8 0) = zz at *
  cases hb : bad == 0
  · have hb' : (bad != 0) = true := by simpa using hb
    simp -implicitDefEqProofs (maxSteps := 1000000) (disch := first | omega | rfl) [m33r0, hz, hh, uq, hzl, hz', w1, hb, hb', box, KZ, KY, KV, KS, getS, getO, gS, zipN, dropW, takeW, wds, stvs, sea, seaL, refs, refsL, refsEls, refsO, isPureEls, isPures, isPure, noExt, noExts, noExtEls, cellsL, ren, renL, renEls, keepO, keepS, keysO, refsS, refsOB, cntN, headC, setS, boxO, row, putW, putB, putB1, eNl, newOs, frz, renO, noExtO, zps, zp, two32, w64, -getElem?_pos]
  · have hb' : (bad != 0) = false := by simpa using hb
    simp -implicitDefEqProofs (maxSteps := 1000000) (disch := first | omega | rfl) [m33r0, hz, hh, uq, hzl, hz', w1, hb, hb', box, KZ, KY, KV, KS, getS, getO, gS, zipN, dropW, takeW, wds, stvs, sea, seaL, refs, refsL, refsEls, refsO, isPureEls, isPures, isPure, noExt, noExts, noExtEls, cellsL, ren, renL, renEls, keepO, keepS, keysO, refsS, refsOB, cntN, headC, setS, boxO, row, putW, putB, putB1, eNl, newOs, frz, renO, noExtO, zps, zp, two32, w64, -getElem?_pos]
set_option maxHeartbeats 8000000 in
theorem endvV (Φ : Sem') (N : Nat) (b : List (List PV)) (z h : List PV) (n : Nat) (hz : z.length = 32) (hh : h.length = 32) : m33e1 Φ N [] (slV b) (obV z h n) = cond (n == b.length) (outV h 0) (outV (uL zero32L) 4) := by
  have hzl : (List.replicate 32 (PV.i IntKind.u8 0)).length = 32 := rfl
  simp only [slV, obV, outV]
  rw [← hz32]
  generalize hz' : List.replicate 32 (PV.i .u8 0) = zz at *
  by_cases c : n = b.length
  · have c1 : (n == b.length) = true := by simpa using c
    have c2 : ((n : Int) != (b.length : Int)) = false := by simp; omega
    simp -implicitDefEqProofs (maxSteps := 1000000) (disch := first | omega | rfl) [m33e1, hz, hh, hzl, hz', c1, c2, box, KZ, KY, KV, KS, getS, getO, gS, zipN, dropW, takeW, wds, stvs, sea, seaL, refs, refsL, refsEls, refsO, isPureEls, isPures, isPure, noExt, noExts, noExtEls, cellsL, ren, renL, renEls, keepO, keepS, keysO, refsS, refsOB, cntN, headC, setS, boxO, row, putW, putB, putB1, eNl, newOs, frz, renO, noExtO, zps, zp, two32, w64, -getElem?_pos]
  · have c1 : (n == b.length) = false := by simpa using c
    have c2 : ((n : Int) != (b.length : Int)) = true := by simp; omega
    simp -implicitDefEqProofs (maxSteps := 1000000) (disch := first | omega | rfl) [m33e1, hz, hh, hzl, hz', c1, c2, box, KZ, KY, KV, KS, getS, getO, gS, zipN, dropW, takeW, wds, stvs, sea, seaL, refs, refsL, refsEls, refsO, isPureEls, isPures, isPure, noExt, noExts, noExtEls, cellsL, ren, renL, renEls, keepO, keepS, keysO, refsS, refsOB, cntN, headC, setS, boxO, row, putW, putB, putB1, eNl, newOs, frz, renO, noExtO, zps, zp, two32, w64, -getElem?_pos]
/-- What is told of steps: the head, what is wrong. -/
def vfS (t : Nat) : List Int → Nat → List St' → List Int × Int
  | h, n, [] => cond (n == t) (h, 0) (zero32L, 4)
  | h, n, s :: r => cond (s.2.2 == 0) (vfS t s.2.1 (n + 62) r) (zero32L, s.2.2)
theorem roundsV (Φ : Sem') (N : Nat) (b : List (List PV)) (z : List PV) (hz : z.length = 32) : ∀ (ss : List St') (h : List Int) (n : Nat), okS ss → h.length = 32 → n + 62 * ss.length ≤ 100000 →
    rounds' (m33r0 Φ N []) [10] hdV (m33e1 Φ N []) (stL ss) (slV b) (obV z (uL h) n) = outV (uL (vfS b.length h n ss).1) (vfS b.length h n ss).2 := by
  intro ss
  induction ss with
  | nil =>
    intro h n _ hh hl
    rw [show stL [] = [] from rfl, k_rounds0, endvV Φ N b z (uL h) n hz (by rw [uL_len]; exact hh), vfS]
    cases n == b.length <;> rfl
  | cons s r ih =>
    intro h n ho hh hl
    simp only [List.length_cons] at hl
    rw [show stL (s :: r) = [.agg (stC s)] :: stL r from rfl, k_rounds1, if_pos (by rfl), show zipS [10] [PV.agg (stC s)] (slV b) = (10, .agg (stC s)) :: slV b from rfl]
    rw [stepvV Φ N (rounds' (m33r0 Φ N []) [10] hdV (m33e1 Φ N []) (stL r)) b z (uL h) n s hz (by rw [uL_len]; exact hh) (ho s (by simp)) (by omega), vfS]
    cases hb : s.2.2 == 0
    · rfl
    · rw [cond_true, cond_true, ih s.2.1 (n + 62) (fun t ht => ho t (by simp [ht])) (ho s (by simp)) (by omega)]
noncomputable def vfB (bs : List Int) : List Int × Int := vfS bs.length h0 0 (stepsL 264 h0 bs)
set_option maxHeartbeats 16000000 in
theorem V33 (M d : Nat) (bs : List Int) (hb : bs.length ≤ 100000) (hr : ∀ x ∈ bs, 0 ≤ x ∧ x ≤ 255) : sem tab (M + 1000) (d + 10) 33 [.l false (byL bs)] [] = outV (uL (vfB bs).1) (vfB bs).2 := by
  rw [sem_succ tab (M + 1000) (d + 9) 33 m33 rfl]
  have h45 := V45 M (d + 1)
  rw [show sumI' [0] = h0 from rfl] at h45
  have h60 := V60 (M + 1000) (d + 8) (byL bs)
  have h81 := V81 M d bs hb hr
  have hzl : (List.replicate 32 (PV.i IntKind.u8 0)).length = 32 := rfl
  have hR := roundsV (sem tab (M + 1000) (d + 9)) (M + 1000) (byL bs) (List.replicate 32 (PV.i IntKind.u8 0)) hzl (stepsL 264 h0 bs) h0 0 (okS_steps _ _ _) h0_len (by have := steps_len 264 h0 bs; omega)
  rw [byL_len, show vfS bs.length h0 0 (stepsL 264 h0 bs) = vfB bs from rfl] at hR
  have ul := uL_len h0
  rw [h0_len] at ul
  generalize outV (uL (vfB bs).1) (vfB bs).2 = res at *
  generalize stL (stepsL 264 h0 bs) = a at *
  simp only [slV, obV] at hR
  simp only [hdV] at hR
  rw [show ((0 : Nat) : Int) = 0 from rfl] at hR
  generalize byL bs = b at *
  generalize uL h0 = u at *
  generalize hz' : List.replicate 32 (PV.i .u8 0) = zz at *
  have rg := rgF_steps (sem tab (M + 1000) (d + 9)) [(136, box [.l false b] 1), (104, box [.i .i64 0] 1), (104, box [.i .i64 0] 1), (96, box [.blob 32 u] 32), (96, box [.blob 32 zz] 32), (88, box [.i .i64 0] 1), (80, box [.blob 32 zz] 32)] 136 b a rfl rfl rfl (by decide) (by decide) (by decide) (by simp [delO, refsOB, refsO, box, refsEls, refsL, refs, rp, rq]) h81
  simp only [box, row] at rg hR h60
  simp -implicitDefEqProofs (maxSteps := 1000000) (disch := first | omega | rfl) [m33, h45, h60, hzl, hz', ul, rg, k_rgO, hR, delS, delO, rp, rq, box, KZ, KY, KV, KS, getS, getO, gS, zipN, dropW, takeW, wds, stvs, sea, seaL, refs, refsL, refsEls, refsO, isPureEls, isPures, isPure, noExt, noExts, noExtEls, cellsL, ren, renL, renEls, keepO, keepS, keysO, refsS, refsOB, cntN, headC, setS, boxO, row, putW, putB, putB1, eNl, newOs, frz, renO, noExtO, zps, zp, two32, w64, -getElem?_pos]
end
section
def byR (l : List Int) : Prop := ∀ x ∈ l, 0 ≤ x ∧ x ≤ 255
theorem byR_app {a b : List Int} (ha : byR a) (hb : byR b) : byR (a ++ b) := fun x hx => (List.mem_append.1 hx).elim (ha x) (hb x)
theorem byR_take {a : List Int} (n : Nat) (ha : byR a) : byR (a.take n) := fun x hx => ha x (List.mem_of_mem_take hx)
theorem byR_drop {a : List Int} (n : Nat) (ha : byR a) : byR (a.drop n) := fun x hx => ha x (List.mem_of_mem_drop hx)
theorem encB_R (e : En) : byR (encB e) := by
  have b := be_range
  exact byR_app (b _ _) (byR_app (b _ _) (byR_app (b _ _) (byR_app (b _ _) (byR_app (b _ _) (byR_app (b _ _) (byR_app (b _ _) (byR_app (b _ _) (b _ _))))))))
theorem linkH_R {h : List Int} (e : En) (hh : byR h) : byR (linkH h e) := sumI'_range _ (byR_app (byR_app (fun x hx => by simp at hx; omega) hh) (encB_R e))
theorem h0_R : byR h0 := sumI'_range _ (fun x hx => by simp at hx; omega)
theorem recL_R : ∀ (l : List En) (h : List Int), byR h → byR (recL h l)
  | [], _, _ => fun x hx => by simp [recL] at hx
  | e :: r, h, hh => byR_app (byR_app (encB_R e) (linkH_R e hh)) (recL_R r _ (linkH_R e hh))
theorem hdL_R : ∀ (l : List En) (h : List Int), byR h → byR (hdL h l)
  | [], _, hh => hh
  | e :: r, h, hh => hdL_R r _ (linkH_R e hh)
theorem fr_rec (h : List Int) (e : En) (r : List Int) (hm : mayE e = true) (ho : okE e) : frE (encB e ++ linkH h e ++ r) = e := by
  rw [frE, List.append_assoc, List.take_append_of_le_length (by rw [encB_len]; omega), List.take_of_length_le (by rw [encB_len]; omega), get_enc e ho hm]
theorem tg_rec (h : List Int) (e : En) (r : List Int) : tgE (encB e ++ linkH h e ++ r) = linkH h e := by
  have l : (encB e ++ linkH h e).length = 62 := by simp [encB_len, linkH_len]
  rw [tgE, List.take_append_of_le_length (by omega), List.take_of_length_le (by omega), List.drop_append_of_le_length (by rw [encB_len]; omega), List.drop_of_length_le (by rw [encB_len]; omega), List.nil_append]
theorem dr_rec (h : List Int) (e : En) (r : List Int) : (encB e ++ linkH h e ++ r).drop 62 = r := by
  have l : (encB e ++ linkH h e).length = 62 := by simp [encB_len, linkH_len]
  rw [List.drop_append_of_le_length (by omega), List.drop_of_length_le (by omega), List.nil_append]
/-- A record that is whole is handed on. -/
theorem steps_good (k : Nat) (h : List Int) (e : En) (r : List Int) (hm : mayE e = true) (ho : okE e) : stepsL (k + 1) h (encB e ++ linkH h e ++ r) = (e, linkH h e, 0) :: stepsL k (linkH h e) r := by
  rw [stepsL, fr_rec h e r hm ho, tg_rec, dr_rec, if_neg (by simp only [List.length_append, encB_len, linkH_len]; omega), hm]
  simp
/-- Whole records' steps. -/
noncomputable def gsL : List Int → List En → List St'
  | _, [] => []
  | h, e :: r => (e, linkH h e, 0) :: gsL (linkH h e) r
theorem steps_app : ∀ (l : List En) (k : Nat) (h r : List Int), l.all mayE = true → (∀ e ∈ l, okE e) → stepsL (l.length + k) h (recL h l ++ r) = gsL h l ++ stepsL k (hdL h l) r
  | [], k, h, r, _, _ => by simp [recL, gsL, hdL]
  | e :: l, k, h, r, hm, ho => by
    simp only [List.all_cons, Bool.and_eq_true] at hm
    rw [show (e :: l).length + k = (l.length + k) + 1 by simp only [List.length_cons]; omega, recL, List.append_assoc, steps_good _ h e _ hm.1 (ho e (by simp)), steps_app l k _ r hm.2 (fun f hf => ho f (by simp [hf]))]
    rfl
theorem good_gs : ∀ (l : List En) (h : List Int) (t : List St'), goodS (gsL h l ++ t) = gsL h l ++ goodS t
  | [], _, _ => rfl
  | e :: l, h, t => by simp only [gsL, List.cons_append, goodS]; rw [good_gs l]; rfl
theorem gs_map : ∀ (l : List En) (h : List Int), (gsL h l).map (·.1) = l
  | [], _ => rfl
  | e :: l, h => by simp [gsL, gs_map l]
theorem gs_head : ∀ (l : List En) (h : List Int) (t : List St'), headS h (gsL h l ++ t) = headS (hdL h l) t
  | [], _, _ => rfl
  | e :: l, h, t => by simp only [gsL, List.cons_append, headS, hdL]; exact gs_head l _ t
theorem gs_vf : ∀ (l : List En) (h : List Int) (t n : Nat) (ss : List St'), vfS t h n (gsL h l ++ ss) = vfS t (hdL h l) (n + 62 * l.length) ss
  | [], _, _, _, _ => rfl
  | e :: l, h, t, n, ss => by
    simp only [gsL, List.cons_append, vfS, hdL, List.length_cons]
    rw [gs_vf l]
    simp only [BEq.rfl, cond_true]
    rw [show n + 62 + 62 * l.length = n + 62 * (l.length + 1) by omega]
theorem steps_short (k : Nat) (h r : List Int) (hr : r.length < 62) : stepsL k h r = [] := by
  cases k with
  | zero => rfl
  | succ k => rw [stepsL, if_pos hr]
/-- What is read of whole records, and less than one behind. -/
theorem rd_recs (l : List En) (r : List Int) (hm : l.all mayE = true) (ho : ∀ e ∈ l, okE e) (hl : l.length ≤ 264) (hr : r.length < 62) :
    rdL (recL h0 l ++ r) = l ∧ rdH (recL h0 l ++ r) = hdL h0 l ∧ vfB (recL h0 l ++ r) = cond (r.length == 0) (hdL h0 l, 0) (zero32L, 4) := by
  have h := steps_app l (264 - l.length) h0 r hm ho
  rw [show l.length + (264 - l.length) = 264 by omega, steps_short _ _ r hr] at h
  refine ⟨?_, ?_, ?_⟩
  · rw [rdL, rdS, h, good_gs]; simp [goodS, gs_map]
  · rw [rdH, rdS, h, good_gs, gs_head]; rfl
  · rw [vfB, h, gs_vf]
    simp only [vfS, List.length_append, recL_len, Nat.zero_add]
    congr 1
    rw [Bool.eq_iff_iff]
    simp only [beq_iff_eq]
    omega
/-- What is read is put as the bytes that were read. -/
theorem rd_spec : ∀ (k : Nat) (h bs : List Int), byR bs →
    ((goodS (stepsL k h bs)).map (·.1)).all mayE = true ∧ (∀ e ∈ (goodS (stepsL k h bs)).map (·.1), okE e) ∧ hdL h ((goodS (stepsL k h bs)).map (·.1)) = headS h (goodS (stepsL k h bs)) ∧
    62 * (goodS (stepsL k h bs)).length ≤ bs.length ∧ chars (recL h ((goodS (stepsL k h bs)).map (·.1))) = chars (bs.take (62 * (goodS (stepsL k h bs)).length)) ∧
    (bs.length < 62 * (k + 1) → ∀ n, ((vfS (n + bs.length) h n (stepsL k h bs)).2 = 0 ↔ 62 * (goodS (stepsL k h bs)).length = bs.length) ∧ ((vfS (n + bs.length) h n (stepsL k h bs)).2 = 0 → (vfS (n + bs.length) h n (stepsL k h bs)).1 = headS h (goodS (stepsL k h bs)))) := by
  intro k
  induction k with
  | zero =>
    intro h bs hb
    refine ⟨rfl, (fun e he => by cases he), rfl, by simp [stepsL, goodS], by simp [stepsL, goodS, recL], fun hl n => ?_⟩
    simp only [stepsL, goodS, vfS, headS, List.length_nil]
    by_cases c : bs.length = 0
    · have e1 : (n == n + bs.length) = true := by rw [beq_iff_eq]; omega
      rw [e1]; exact ⟨⟨fun _ => by omega, fun _ => rfl⟩, fun _ => rfl⟩
    · have e1 : (n == n + bs.length) = false := by rw [beq_eq_false_iff_ne]; omega
      rw [e1]; exact ⟨⟨fun h' => absurd (show (4 : Int) = 0 from h') (by decide), fun h' => absurd h' (by omega)⟩, fun h' => absurd (show (4 : Int) = 0 from h') (by decide)⟩
  | succ k ih =>
    intro h bs hb
    rw [stepsL]
    by_cases c : bs.length < 62
    · rw [if_pos c]
      refine ⟨rfl, (fun e he => by cases he), rfl, by simp [goodS], by simp [goodS, recL], fun hl n => ?_⟩
      simp only [goodS, vfS, headS, List.length_nil]
      by_cases c : bs.length = 0
      · have e1 : (n == n + bs.length) = true := by rw [beq_iff_eq]; omega
        rw [e1]; exact ⟨⟨fun _ => by omega, fun _ => rfl⟩, fun _ => rfl⟩
      · have e1 : (n == n + bs.length) = false := by rw [beq_eq_false_iff_ne]; omega
        rw [e1]; exact ⟨⟨fun h' => absurd (show (4 : Int) = 0 from h') (by decide), fun h' => absurd h' (by omega)⟩, fun h' => absurd (show (4 : Int) = 0 from h') (by decide)⟩
    · rw [if_neg c]
      cases hm : mayE (frE bs)
      · refine ⟨rfl, (fun e he => by cases he), rfl, by simp [goodS], by simp [goodS, recL], fun hl n => ?_⟩
        simp [goodS, vfS]
        omega
      · cases hs : decide (chars (linkH h (frE bs)) = chars (tgE bs))
        · refine ⟨rfl, (fun e he => by cases he), rfl, by simp [goodS], by simp [goodS, recL], fun hl n => ?_⟩
          simp [goodS, vfS]
          omega
        · simp only [decide_eq_true_eq] at hs
          obtain ⟨i1, i2, i3, i4, i5, i6⟩ := ih (linkH h (frE bs)) (bs.drop 62) (byR_drop 62 hb)
          have ho : okE (frE bs) := by
            have v : ∀ k, 0 ≤ vAt (bs.take 30) k 8 ∧ vAt (bs.take 30) k 8 < 18446744073709551616 := fun k => by
              have hv := val_range (((bs.take 30).drop k).take 8) (byR_take _ (byR_drop _ (byR_take _ hb)))
              have hl : (((bs.take 30).drop k).take 8).length ≤ 8 := by rw [List.length_take]; omega
              have hp : (256 : Int) ^ (((bs.take 30).drop k).take 8).length ≤ 18446744073709551616 := (by decide : ∀ m ≤ 8, (256 : Int) ^ m ≤ 18446744073709551616) _ hl
              exact ⟨hv.1, by unfold vAt; omega⟩
            exact ⟨(v 10).1, (v 10).2, (v 18).1, (v 18).2⟩
          have en : encB (frE bs) = bs.take 30 := enc_get _ (by rw [List.length_take]; omega) (byR_take 30 hb)
          simp only [cond_true, goodS, BEq.rfl, List.map_cons, List.all_cons, hm, Bool.true_and, List.length_cons, hdL, headS, recL, vfS, List.mem_cons]
          generalize goodS (stepsL k (linkH h (frE bs)) (bs.drop 62)) = g at *
          have dl : (bs.drop 62).length = bs.length - 62 := List.length_drop
          refine ⟨i1, fun e he => he.elim (fun e' => e' ▸ ho) (i2 e), i3, by omega, ?_, fun hl n => ?_⟩
          · rw [show 62 * (g.length + 1) = 62 + 62 * g.length by omega, List.take_add]
            have t62 : bs.take 62 = bs.take 30 ++ tgE bs := by
              have := (List.take_append_drop 30 (bs.take 62)).symm
              rw [List.take_take] at this
              exact this
            rw [t62, en]
            simp only [chars, List.map_append] at hs i5 ⊢
            rw [hs, i5]
          · have := i6 (by omega) (n + 62)
            rw [dl, show n + 62 + (bs.length - 62) = n + bs.length by omega] at this
            exact ⟨this.1.trans ⟨fun h => by omega, fun h => by omega⟩, this.2⟩
end
section
def e1E : En := ⟨0, 0, 1, 0, 0, 0, 0, 0, 0⟩
theorem eqIs_uu (q : List Int) : eqIs (uL q) (uL q) = some true := eqIs_self .u8 q
theorem byL_app' (xs ys : List Int) : byL (xs ++ ys) = byL xs ++ byL ys := by simp [byL]
set_option maxHeartbeats 16000000 in
theorem awakeC (M d : Nat) : sem tab (M + 1000) (d + 11) 30 [] [] = some (.b true, []) := by
  rw [sem_succ tab (M + 1000) (d + 10) 30 m30 rfl]
  have ok : ∀ e ∈ [e1E], okE e := fun e he => by
    rw [List.mem_singleton] at he; subst he; exact ⟨by decide, by decide, by decide, by decide⟩
  have hm : [e1E].all mayE = true := by decide
  have h32 := V32 M (d + 1) [e1E] (by decide) ok
  rw [hm, cond_true] at h32
  have bl := recL_len [e1E] h0
  rw [show 62 * [e1E].length = 62 from rfl] at bl
  have bR := recL_R [e1E] h0 h0_R
  obtain ⟨a1, a2, _⟩ := rd_recs [e1E] (List.replicate 38 0) hm ok (by decide) (by simp)
  obtain ⟨_, _, b3⟩ := rd_recs [e1E] [] hm ok (by decide) (by decide)
  rw [List.append_nil] at b3
  have h31 := V31 M d (recL h0 [e1E] ++ List.replicate 38 0) (by rw [List.length_append, bl, List.length_replicate]; omega) (byR_app bR (fun x hx => by have := List.eq_of_mem_replicate hx; omega))
  rw [a1, a2] at h31
  have h33 := V33 M d (recL h0 [e1E]) (by omega) bR
  rw [b3] at h33
  have h45 := V45 M (d + 2)
  rw [show sumI' [0] = h0 from rfl] at h45
  have h36 := V36 M (d + 2) h0 e1E h0_len (ok e1E (by simp))
  rw [show linkC h0 e1E = hdL h0 [e1E] from rfl, show mayE e1E = true from rfl] at h36
  have byl := byL_len (recL h0 [e1E])
  have wb := allW_by (recL h0 [e1E])
  have fb := flat_by (recL h0 [e1E])
  have tk : List.take 62 (byL (recL h0 [e1E])) = byL (recL h0 [e1E]) := List.take_of_length_le (by omega)
  have ul := uL_len (hdL h0 [e1E])
  rw [hdL_len [e1E] h0 h0_len] at ul
  have qq := eqIs_uu (hdL h0 [e1E])
  simp only [yesPut, outR, outV, cond_true, List.length_replicate, List.length_nil, BEq.rfl] at h31 h32 h33
  rw [bl] at byl h32
  rw [byL_app', show byL (List.replicate 38 0) = List.replicate 38 [PV.i .u8 0] by simp [byL]] at h31
  rw [show enL [e1E] = [enC e1E] from rfl] at h31 h32
  generalize byL (recL h0 [e1E]) = b at *
  generalize uL (hdL h0 [e1E]) = u at *
  generalize uL h0 = v at *
  simp only [enC, e1E] at h31 h32 h36
  have hzl : (List.replicate 32 (PV.i IntKind.u8 0)).length = 32 := rfl
  have hyl : (List.replicate 38 [PV.i IntKind.u8 0]).length = 38 := rfl
  have hyw : allW 1 (List.replicate 38 [PV.i IntKind.u8 0]) = true := rfl
  have hyf : flatEls (List.replicate 38 [PV.i IntKind.u8 0]) = true := rfl
  generalize hz' : List.replicate 32 (PV.i .u8 0) = zz at *
  generalize hy' : List.replicate 38 [PV.i .u8 0] = yy at *
  have tk2 : List.take 100 (b ++ yy) = b ++ yy := List.take_of_length_le (by simp; omega)
  have bn : ¬ b = [] := by rintro rfl; simp at byl
  simp only [row] at h31 h32
  simp -implicitDefEqProofs (maxSteps := 1000000) (disch := first | omega | rfl) [m30, h31, h32, h33, h45, h36, byl, wb, fb, tk, tk2, ul, qq, hzl, hyl, hyw, hyf, hz', hy', bn, isPures, isPure, zps, zp, box, KY, KV, KS, getS, getO, gS, zipN, dropW, takeW, wds, stvs, sea, seaL, refs, refsL, refsEls, refsO, isPureEls, isPures, isPure, noExt, noExts, noExtEls, cellsL, ren, renL, renEls, keepO, keepS, keysO, refsS, refsOB, cntN, headC, setS, boxO, row, putW, putB, putB1, eNl, newOs, frz, renO, noExtO, zps, zp, two32, w64, -getElem?_pos]
end
section
/-- Two entries with one text are the same. -/
theorem enc_inj (e f : En) (he : okE e) (hf : okE f) (me : mayE e = true) (mf : mayE f = true) (h : encB e = encB f) : e = f := by
  rw [← get_enc e he me, h, get_enc f hf mf]
end
end Go.Proofs.YtcimkkcajkmfoaaDoor
