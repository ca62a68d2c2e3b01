/- The document's answers on sha and mac. -/
import Derived.Test.YtcimkkcajkmfoaaDoorPureBase
import Derived.Test.YtcimkkcajkmfoaaDoorPureMac
set_option linter.all false
set_option linter.unusedSimpArgs false
set_option linter.unusedVariables false
namespace Go.Proofs.YtcimkkcajkmfoaaDoor
open Go
/-! ## PureR -/
section
/-- A number turned by n places. -/
def turnE (x : Int) (n : Nat) : Int := IntKind.u32.wrap (BitVec.ofInt 32 (IntKind.u32.wrap (x * 2 ^ (32 - n))) ||| BitVec.ofInt 32 (x.fdiv (2 ^ n))).toNat
theorem turnE_or (x : Int) (n : Nat) : IntKind.u32.wrap (BitVec.ofInt 32 (x.fdiv (2 ^ n)) ||| BitVec.ofInt 32 (IntKind.u32.wrap (x * 2 ^ (32 - n)))).toNat = turnE x n := by rw [BitVec.or_comm]; rfl
theorem turnF7 (x : Int) : turnF x 7 = turnE x 7 := rfl
theorem t46_7 (N d : Nat) (x : Int) : sem tab N (d + 1) 103 [.i .u32 x, .i .u32 7] [] = some (.i .u32 (turnF x 7), []) := by
  rw [turnF7, ← turnE_or]; rfl
theorem turnF18 (x : Int) : turnF x 18 = turnE x 18 := rfl
theorem t46_18 (N d : Nat) (x : Int) : sem tab N (d + 1) 103 [.i .u32 x, .i .u32 18] [] = some (.i .u32 (turnF x 18), []) := by
  rw [turnF18, ← turnE_or]; rfl
theorem turnF17 (x : Int) : turnF x 17 = turnE x 17 := rfl
theorem t46_17 (N d : Nat) (x : Int) : sem tab N (d + 1) 103 [.i .u32 x, .i .u32 17] [] = some (.i .u32 (turnF x 17), []) := by
  rw [turnF17, ← turnE_or]; rfl
theorem turnF19 (x : Int) : turnF x 19 = turnE x 19 := rfl
theorem t46_19 (N d : Nat) (x : Int) : sem tab N (d + 1) 103 [.i .u32 x, .i .u32 19] [] = some (.i .u32 (turnF x 19), []) := by
  rw [turnF19, ← turnE_or]; rfl
theorem turnF6 (x : Int) : turnF x 6 = turnE x 6 := rfl
theorem t46_6 (N d : Nat) (x : Int) : sem tab N (d + 1) 103 [.i .u32 x, .i .u32 6] [] = some (.i .u32 (turnF x 6), []) := by
  rw [turnF6, ← turnE_or]; rfl
theorem turnF11 (x : Int) : turnF x 11 = turnE x 11 := rfl
theorem t46_11 (N d : Nat) (x : Int) : sem tab N (d + 1) 103 [.i .u32 x, .i .u32 11] [] = some (.i .u32 (turnF x 11), []) := by
  rw [turnF11, ← turnE_or]; rfl
theorem turnF25 (x : Int) : turnF x 25 = turnE x 25 := rfl
theorem t46_25 (N d : Nat) (x : Int) : sem tab N (d + 1) 103 [.i .u32 x, .i .u32 25] [] = some (.i .u32 (turnF x 25), []) := by
  rw [turnF25, ← turnE_or]; rfl
theorem turnF2 (x : Int) : turnF x 2 = turnE x 2 := rfl
theorem t46_2 (N d : Nat) (x : Int) : sem tab N (d + 1) 103 [.i .u32 x, .i .u32 2] [] = some (.i .u32 (turnF x 2), []) := by
  rw [turnF2, ← turnE_or]; rfl
theorem turnF13 (x : Int) : turnF x 13 = turnE x 13 := rfl
theorem t46_13 (N d : Nat) (x : Int) : sem tab N (d + 1) 103 [.i .u32 x, .i .u32 13] [] = some (.i .u32 (turnF x 13), []) := by
  rw [turnF13, ← turnE_or]; rfl
theorem turnF22 (x : Int) : turnF x 22 = turnE x 22 := rfl
theorem t46_22 (N d : Nat) (x : Int) : sem tab N (d + 1) 103 [.i .u32 x, .i .u32 22] [] = some (.i .u32 (turnF x 22), []) := by
  rw [turnF22, ← turnE_or]; rfl
theorem t47 (N d : Nat) : ∀ k : Nat, k < 64 → ∃ x, nMore[k]? = some x ∧ sem tab N (d + 1) 104 [.i .i64 k] [] = some (.i .u32 x, [])
  | 0, _ => ⟨_, rfl, rfl⟩
  | 1, _ => ⟨_, rfl, rfl⟩
  | 2, _ => ⟨_, rfl, rfl⟩
  | 3, _ => ⟨_, rfl, rfl⟩
  | 4, _ => ⟨_, rfl, rfl⟩
  | 5, _ => ⟨_, rfl, rfl⟩
  | 6, _ => ⟨_, rfl, rfl⟩
  | 7, _ => ⟨_, rfl, rfl⟩
  | 8, _ => ⟨_, rfl, rfl⟩
  | 9, _ => ⟨_, rfl, rfl⟩
  | 10, _ => ⟨_, rfl, rfl⟩
  | 11, _ => ⟨_, rfl, rfl⟩
  | 12, _ => ⟨_, rfl, rfl⟩
  | 13, _ => ⟨_, rfl, rfl⟩
  | 14, _ => ⟨_, rfl, rfl⟩
  | 15, _ => ⟨_, rfl, rfl⟩
  | 16, _ => ⟨_, rfl, rfl⟩
  | 17, _ => ⟨_, rfl, rfl⟩
  | 18, _ => ⟨_, rfl, rfl⟩
  | 19, _ => ⟨_, rfl, rfl⟩
  | 20, _ => ⟨_, rfl, rfl⟩
  | 21, _ => ⟨_, rfl, rfl⟩
  | 22, _ => ⟨_, rfl, rfl⟩
  | 23, _ => ⟨_, rfl, rfl⟩
  | 24, _ => ⟨_, rfl, rfl⟩
  | 25, _ => ⟨_, rfl, rfl⟩
  | 26, _ => ⟨_, rfl, rfl⟩
  | 27, _ => ⟨_, rfl, rfl⟩
  | 28, _ => ⟨_, rfl, rfl⟩
  | 29, _ => ⟨_, rfl, rfl⟩
  | 30, _ => ⟨_, rfl, rfl⟩
  | 31, _ => ⟨_, rfl, rfl⟩
  | 32, _ => ⟨_, rfl, rfl⟩
  | 33, _ => ⟨_, rfl, rfl⟩
  | 34, _ => ⟨_, rfl, rfl⟩
  | 35, _ => ⟨_, rfl, rfl⟩
  | 36, _ => ⟨_, rfl, rfl⟩
  | 37, _ => ⟨_, rfl, rfl⟩
  | 38, _ => ⟨_, rfl, rfl⟩
  | 39, _ => ⟨_, rfl, rfl⟩
  | 40, _ => ⟨_, rfl, rfl⟩
  | 41, _ => ⟨_, rfl, rfl⟩
  | 42, _ => ⟨_, rfl, rfl⟩
  | 43, _ => ⟨_, rfl, rfl⟩
  | 44, _ => ⟨_, rfl, rfl⟩
  | 45, _ => ⟨_, rfl, rfl⟩
  | 46, _ => ⟨_, rfl, rfl⟩
  | 47, _ => ⟨_, rfl, rfl⟩
  | 48, _ => ⟨_, rfl, rfl⟩
  | 49, _ => ⟨_, rfl, rfl⟩
  | 50, _ => ⟨_, rfl, rfl⟩
  | 51, _ => ⟨_, rfl, rfl⟩
  | 52, _ => ⟨_, rfl, rfl⟩
  | 53, _ => ⟨_, rfl, rfl⟩
  | 54, _ => ⟨_, rfl, rfl⟩
  | 55, _ => ⟨_, rfl, rfl⟩
  | 56, _ => ⟨_, rfl, rfl⟩
  | 57, _ => ⟨_, rfl, rfl⟩
  | 58, _ => ⟨_, rfl, rfl⟩
  | 59, _ => ⟨_, rfl, rfl⟩
  | 60, _ => ⟨_, rfl, rfl⟩
  | 61, _ => ⟨_, rfl, rfl⟩
  | 62, _ => ⟨_, rfl, rfl⟩
  | 63, _ => ⟨_, rfl, rfl⟩
  | k + 64, h => by omega
end
/-! ## PureRa -/
section
def orE (a b : Int) : Int := IntKind.u32.wrap (BitVec.ofInt 32 a ||| BitVec.ofInt 32 b).toNat
def word48 (x0 x1 x2 x3 : Int) : Int := orE (orE (orE (IntKind.u32.wrap (IntKind.u32.wrap x0 * 2 ^ 24)) (IntKind.u32.wrap (IntKind.u32.wrap x1 * 2 ^ 16))) (IntKind.u32.wrap (IntKind.u32.wrap x2 * 2 ^ 8))) (IntKind.u32.wrap x3)
def word45 (x0 x1 x2 x3 : Int) : Int := IntKind.u32.wrap (IntKind.u32.wrap (IntKind.u32.wrap (IntKind.u32.wrap (16777216 * IntKind.u32.wrap x0) + IntKind.u32.wrap (65536 * IntKind.u32.wrap x1)) + IntKind.u32.wrap (256 * IntKind.u32.wrap x2)) + IntKind.u32.wrap x3)
theorem w32 {x : Int} (h : 0 ≤ x) (h' : x < 4294967296) : IntKind.u32.wrap x = x := by
  rw [IntKind.wrap_u32]; omega
theorem orE_add (a b i : Nat) (hb : b < 2 ^ i) (h : 2 ^ i * a + b < 4294967296) : orE (2 ^ i * a : Nat) b = (2 ^ i * a + b : Nat) := by
  unfold orE
  have h1 : 2 ^ i * a < 4294967296 := by omega
  have h2 : b < 4294967296 := by omega
  rw [BitVec.ofInt_natCast, BitVec.ofInt_natCast, BitVec.toNat_or, BitVec.toNat_ofNat, BitVec.toNat_ofNat, Nat.mod_eq_of_lt h1, Nat.mod_eq_of_lt h2, ← Nat.two_pow_add_eq_or_of_lt hb, w32 (by omega) (by omega)]
theorem word_eq {x0 x1 x2 x3 : Int} (h0 : 0 ≤ x0 ∧ x0 ≤ 255) (h1 : 0 ≤ x1 ∧ x1 ≤ 255) (h2 : 0 ≤ x2 ∧ x2 ≤ 255) (h3 : 0 ≤ x3 ∧ x3 ≤ 255) : word48 x0 x1 x2 x3 = word45 x0 x1 x2 x3 := by
  obtain ⟨n0, rfl⟩ : ∃ n : Nat, x0 = n := ⟨x0.toNat, by omega⟩
  obtain ⟨n1, rfl⟩ : ∃ n : Nat, x1 = n := ⟨x1.toNat, by omega⟩
  obtain ⟨n2, rfl⟩ : ∃ n : Nat, x2 = n := ⟨x2.toNat, by omega⟩
  obtain ⟨n3, rfl⟩ : ∃ n : Nat, x3 = n := ⟨x3.toNat, by omega⟩
  have e : word45 n0 n1 n2 n3 = (16777216 * n0 + 65536 * n1 + 256 * n2 + n3 : Nat) := by
    unfold word45
    simp only [IntKind.wrap_u32]
    omega
  have e0 : IntKind.u32.wrap (IntKind.u32.wrap (n0 : Int) * 2 ^ 24) = (2 ^ 24 * n0 : Nat) := by
    simp only [IntKind.wrap_u32]; omega
  have e1 : IntKind.u32.wrap (IntKind.u32.wrap (n1 : Int) * 2 ^ 16) = (2 ^ 16 * n1 : Nat) := by
    simp only [IntKind.wrap_u32]; omega
  have e2 : IntKind.u32.wrap (IntKind.u32.wrap (n2 : Int) * 2 ^ 8) = (2 ^ 8 * n2 : Nat) := by
    simp only [IntKind.wrap_u32]; omega
  have e3 : IntKind.u32.wrap (n3 : Int) = n3 := w32 (by omega) (by omega)
  rw [e]
  unfold word48
  rw [e0, e1, e2, e3]
  rw [orE_add n0 (2 ^ 16 * n1) 24 (by omega) (by omega)]
  rw [show 2 ^ 24 * n0 + 2 ^ 16 * n1 = 2 ^ 16 * (2 ^ 8 * n0 + n1) by omega]
  rw [orE_add _ (2 ^ 8 * n2) 16 (by omega) (by omega)]
  rw [show 2 ^ 16 * (2 ^ 8 * n0 + n1) + 2 ^ 8 * n2 = 2 ^ 8 * (2 ^ 16 * n0 + 2 ^ 8 * n1 + n2) by omega]
  rw [orE_add _ n3 8 (by omega) (by omega)]
def wrow (ws : List Int) : List (List PV) := ws.map fun n => [.i .u32 n]
theorem wrow_get (ws : List Int) (j : Nat) : (wrow ws)[j]? = (ws[j]?).map fun n => [.i .u32 n] := by simp [wrow]
theorem wrow_len (ws : List Int) : (wrow ws).length = ws.length := by simp [wrow]
theorem wrow_app (ws : List Int) (y : Int) : wrow ws ++ [[.i .u32 y]] = wrow (ws ++ [y]) := by simp [wrow]
def sl45 (b : List (List PV)) (n : Nat) (k : Int) : SL := [(0, .l false b), (3, .sl 95 0 0 n), (4, .i .i64 k)]
def sl45b (n : Nat) (k : Int) : SL := [(3, .sl 95 0 0 n), (5, .i .i64 k)]
def ob45 (t : List (List PV)) : OB := [(95, row t 1 true)]
set_option maxHeartbeats 4000000 in
theorem stepJa48 (k : Nat) (b : List (List PV)) (zs ws : List PV) (x0 x1 x2 x3 : Int) (hk : k < 16) (hw : ws.length = 64)
    (h0 : b[4 * k]? = some [.i .u8 x0]) (h1 : b[4 * k + 1]? = some [.i .u8 x1]) (h2 : b[4 * k + 2]? = some [.i .u8 x2]) (h3 : b[4 * k + 3]? = some [.i .u8 x3]) :
    ∀ (N d : Nat) (g : SL → OB → Option R), m100b0 (sem tab N (d + 2)) N [] g (sl48 b k) (ob48 zs ws) = g (sl48 b (k + 1 : Nat)) (ob48 zs (ws.set k (.i .u32 (word48 x0 x1 x2 x3)))) := by
  have c1 : (k : Int) < 64 := by omega
  have c2 : (k : Int) < 16 := by omega
  have c3 : (0 : Int) ≤ k := by omega
  have c4 : (0 : Int) ≤ 4 * (k : Int) := by omega
  have c5 : (0 : Int) ≤ 4 * (k : Int) + 1 := by omega
  have c6 : (0 : Int) ≤ 4 * (k : Int) + 2 := by omega
  have c7 : (0 : Int) ≤ 4 * (k : Int) + 3 := by omega
  have t4 : (4 * (k : Int)).toNat = 4 * k := by omega
  have t5 : (4 * (k : Int) + 1).toNat = 4 * k + 1 := by omega
  have t6 : (4 * (k : Int) + 2).toNat = 4 * k + 2 := by omega
  have t7 : (4 * (k : Int) + 3).toNat = 4 * k + 3 := by omega
  have c8 : k < 64 := by omega
  intro N d g
  simp -implicitDefEqProofs (maxSteps := 1000000) (disch := first | omega | rfl) [m100b0, sl48, ob48, box, c1, c2, c3, c4, c5, c6, c7, c8, t4, t5, t6, t7, h0, h1, h2, h3, hw, KS, getS, getO, gS, zipN, dropW, takeW, wds, stvs, sea, seaL, refs, refsL, refsEls, refsO, isPureEls, isPures, isPure, noExt, noExts, noExtEls, cellsL, ren, renL, renEls, keepO, keepS, keysO, refsS, refsOB, cntN, headC, setS, boxO, row, putW, putB, putB1, eNl, newOs, frz, renO, noExtO, zps, zp, two32, w64, -getElem?_pos]
  rfl
set_option maxHeartbeats 4000000 in
theorem stepJa45 (k : Nat) (b t : List (List PV)) (x0 x1 x2 x3 : Int) (hk : k < 16) (ht : t.length = k)
    (h0 : b[4 * k]? = some [.i .u8 x0]) (h1 : b[4 * k + 1]? = some [.i .u8 x1]) (h2 : b[4 * k + 2]? = some [.i .u8 x2]) (h3 : b[4 * k + 3]? = some [.i .u8 x3]) :
    ∀ (N d : Nat) (g : SL → OB → Option R), m102b1 (sem tab N d) N [] g (sl45 b k k) (ob45 t) = g (sl45 b (k + 1) (k + 1 : Nat)) (ob45 (t ++ [[.i .u32 (word45 x0 x1 x2 x3)]])) := by
  have c2 : (k : Int) < 16 := by omega
  have c3 : (0 : Int) ≤ k := by omega
  have c4 : (0 : Int) ≤ 4 * (k : Int) := by omega
  have c5 : (0 : Int) ≤ 4 * (k : Int) + 1 := by omega
  have c6 : (0 : Int) ≤ 4 * (k : Int) + 2 := by omega
  have c7 : (0 : Int) ≤ 4 * (k : Int) + 3 := by omega
  have t4 : (4 * (k : Int)).toNat = 4 * k := by omega
  have t5 : (4 * (k : Int) + 1).toNat = 4 * k + 1 := by omega
  have t6 : (4 * (k : Int) + 2).toNat = 4 * k + 2 := by omega
  have t7 : (4 * (k : Int) + 3).toNat = 4 * k + 3 := by omega
  have q1 : k + 1 ≤ 4294967296 := by omega
  have q2 : ¬ (k + 1 ≤ k) := by omega
  have tt : List.take k t = t := List.take_of_length_le (by omega)
  intro N d g
  simp -implicitDefEqProofs (maxSteps := 1000000) (disch := first | omega | rfl) [m102b1, sl45, ob45, c2, hk, c3, c4, c5, c6, c7, t4, t5, t6, t7, h0, h1, h2, h3, ht, q1, q2, tt, KS, getS, getO, gS, zipN, dropW, takeW, wds, stvs, sea, seaL, refs, refsL, refsEls, refsO, isPureEls, isPures, isPure, noExt, noExts, noExtEls, cellsL, ren, renL, renEls, keepO, keepS, keysO, refsS, refsOB, cntN, headC, setS, boxO, row, putW, putB, putB1, eNl, newOs, frz, renO, noExtO, zps, zp, two32, w64, -getElem?_pos]
  rfl
end
/-! ## PureRb -/
section
set_option maxHeartbeats 8000000 in
theorem stepJb (k : Nat) (b t : List (List PV)) (zs ws : List PV) (x0 x1 x2 x3 : Int) (hk : k < 64) (hk' : 16 ≤ k) (hw : ws.length = 64) (ht : t.length = k)
    (h0 : ws[k - 15]? = some (.i .u32 x0)) (h1 : ws[k - 2]? = some (.i .u32 x1)) (h2 : ws[k - 16]? = some (.i .u32 x2)) (h3 : ws[k - 7]? = some (.i .u32 x3))
    (g0 : t[k - 15]? = some [.i .u32 x0]) (g1 : t[k - 2]? = some [.i .u32 x1]) (g2 : t[k - 16]? = some [.i .u32 x2]) (g3 : t[k - 7]? = some [.i .u32 x3]) :
    ∃ y, (∀ (N d : Nat) (g : SL → OB → Option R), m100b0 (sem tab N (d + 2)) N [] g (sl48 b k) (ob48 zs ws) = g (sl48 b (k + 1 : Nat)) (ob48 zs (ws.set k (.i .u32 y)))) ∧
      ∀ (N d : Nat) (g : SL → OB → Option R), m102b0 (sem tab N (d + 1)) N [] g (sl45b k k) (ob45 t) = g (sl45b (k + 1) (k + 1 : Nat)) (ob45 (t ++ [[.i .u32 y]])) := by
  have c1 : (k : Int) < 64 := by omega
  have c2 : ¬ ((k : Int) < 16) := by omega
  have c2' : ¬ (k < 16) := by omega
  have c3 : (0 : Int) ≤ k := by omega
  have c4 : (0 : Int) ≤ (k : Int) - 15 := by omega
  have c5 : (0 : Int) ≤ (k : Int) - 2 := by omega
  have c6 : (0 : Int) ≤ (k : Int) - 16 := by omega
  have c7 : (0 : Int) ≤ (k : Int) - 7 := by omega
  have d4 : (k : Int) - 15 < 64 := by omega
  have d5 : (k : Int) - 2 < 64 := by omega
  have d6 : (k : Int) - 16 < 64 := by omega
  have d7 : (k : Int) - 7 < 64 := by omega
  have b4 : (k : Int) - 15 < k := by omega
  have b5 : (k : Int) - 2 < k := by omega
  have b6 : (k : Int) - 16 < k := by omega
  have b7 : (k : Int) - 7 < k := by omega
  have t4 : ((k : Int) - 15).toNat = k - 15 := by omega
  have t5 : ((k : Int) - 2).toNat = k - 2 := by omega
  have t6 : ((k : Int) - 16).toNat = k - 16 := by omega
  have t7 : ((k : Int) - 7).toNat = k - 7 := by omega
  have c8 : k < 64 := by omega
  have e4 : (15 : Int) ≤ k := by omega
  have e5 : (2 : Int) ≤ k := by omega
  have e6 : (16 : Int) ≤ k := by omega
  have e7 : (7 : Int) ≤ k := by omega
  have w4 : IntKind.i64.wrap ((k : Int) - 15) = (k : Int) - 15 := w64 (by omega) (by omega)
  have w5 : IntKind.i64.wrap ((k : Int) - 2) = (k : Int) - 2 := w64 (by omega) (by omega)
  have w6 : IntKind.i64.wrap ((k : Int) - 16) = (k : Int) - 16 := w64 (by omega) (by omega)
  have w7 : IntKind.i64.wrap ((k : Int) - 7) = (k : Int) - 7 := w64 (by omega) (by omega)
  have q1 : k + 1 ≤ 4294967296 := by omega
  have q2 : ¬ (k + 1 ≤ k) := by omega
  have tt : List.take k t = t := List.take_of_length_le (by omega)
  apply Exists.intro
  constructor
  · intro N d g
    simp -implicitDefEqProofs (maxSteps := 1000000) (disch := first | omega | rfl) [m100b0, sl48, ob48, box, turn7, turn18, turn17, turn19, w4, w5, w6, w7, e4, e5, e6, e7, c1, c2, c2', c3, c4, c5, c6, c7, c8, d4, d5, d6, d7, t4, t5, t6, t7, h0, h1, h2, h3, hw, KS, getS, getO, gS, zipN, dropW, takeW, wds, stvs, sea, seaL, refs, refsL, refsEls, refsO, isPureEls, isPures, isPure, noExt, noExts, noExtEls, cellsL, ren, renL, renEls, keepO, keepS, keysO, refsS, refsOB, cntN, headC, setS, boxO, row, putW, putB, putB1, eNl, newOs, frz, renO, noExtO, zps, zp, two32, w64, -getElem?_pos]
    rfl
  · intro N d g
    simp -implicitDefEqProofs (maxSteps := 1000000) (disch := first | omega | rfl) [m102b0, sl45b, ob45, t46_7, t46_18, t46_17, t46_19, w4, w5, w6, w7, e4, e5, e6, e7, c1, c2, c2', c3, c4, c5, c6, c7, c8, d4, d5, d6, d7, b4, b5, b6, b7, t4, t5, t6, t7, g0, g1, g2, g3, ht, q1, q2, tt, KS, getS, getO, gS, zipN, dropW, takeW, wds, stvs, sea, seaL, refs, refsL, refsEls, refsO, isPureEls, isPures, isPure, noExt, noExts, noExtEls, cellsL, ren, renL, renEls, keepO, keepS, keysO, refsS, refsOB, cntN, headC, setS, boxO, row, putW, putB, putB1, eNl, newOs, frz, renO, noExtO, zps, zp, two32, w64, -getElem?_pos]
set_option maxHeartbeats 4000000 in
theorem end45b (N d : Nat) (g : SL → OB → Option R) (t : List (List PV)) (ht : t.length = 64) : m102b0 (sem tab N d) N [] g (sl45b 64 64) (ob45 t) = some (.sl 0 0 0 64, [row t 1 true]) := by
  have tt : List.take 64 t = t := List.take_of_length_le (by omega)
  simp -implicitDefEqProofs (maxSteps := 1000000) (disch := first | omega | rfl) [m102b0, sl45b, ob45, ht, tt, KS, getS, getO, gS, zipN, dropW, takeW, wds, stvs, sea, seaL, refs, refsL, refsEls, refsO, isPureEls, isPures, isPure, noExt, noExts, noExtEls, cellsL, ren, renL, renEls, keepO, keepS, keysO, refsS, refsOB, cntN, headC, setS, boxO, row, putW, putB, putB1, eNl, newOs, frz, renO, noExtO, zps, zp, two32, w64, -getElem?_pos]
set_option maxHeartbeats 4000000 in
theorem mid45 (N d : Nat) (g : SL → OB → Option R) (b t : List (List PV)) (ht : t.length = 16) : m102b1 (sem tab N d) N [] g (sl45 b 16 16) (ob45 t) = loopC (m102b0 (sem tab N d) N []) N (sl45b 16 16) (ob45 t) := by
  have tt : List.take 16 t = t := List.take_of_length_le (by omega)
  simp -implicitDefEqProofs (maxSteps := 1000000) (disch := first | omega | rfl) [m102b1, sl45, sl45b, ob45, ht, tt, KS, getS, getO, gS, zipN, dropW, takeW, wds, stvs, sea, seaL, refs, refsL, refsEls, refsO, isPureEls, isPures, isPure, noExt, noExts, noExtEls, cellsL, ren, renL, renEls, keepO, keepS, keysO, refsS, refsOB, cntN, headC, setS, boxO, row, putW, putB, putB1, eNl, newOs, frz, renO, noExtO, zps, zp, two32, w64, -getElem?_pos]
end
/-! ## PureRc -/
section
theorem take_set {ws : List Int} {k : Nat} (h : k < ws.length) (y : Int) : (ws.set k y).take (k + 1) = ws.take k ++ [y] := by
  rw [List.take_succ_eq_append_getElem (by simpa using h), List.getElem_set_self, List.take_set_of_le (Nat.le_refl k)]
theorem take_get {ws : List Int} {k j : Nat} (h : j < k) : (ws.take k)[j]? = ws[j]? := List.getElem?_take_of_lt h
theorem loopJb (xs : List Int) (zs : List PV) : ∀ (n k : Nat) (ws : List Int), k + n = 64 → 16 ≤ k → ws.length = 64 → ∃ ws', ws'.length = 64 ∧
    (∀ N d M : Nat, loopC (m100b0 (sem tab N (d + 2)) N []) (M + 1 + n) (sl48 (byL xs) k) (ob48 zs (wL ws)) = some (.agg [.blob 64 (wL ws')], [])) ∧
    ∀ N d M : Nat, loopC (m102b0 (sem tab N (d + 1)) N []) (M + 1 + n) (sl45b k k) (ob45 (wrow (ws.take k))) = some (.sl 0 0 0 64, [row (wrow ws') 1 true]) := by
  intro n
  induction n with
  | zero =>
    intro k ws hk h16 hw
    have : k = 64 := by omega
    subst this
    refine ⟨ws, hw, fun N d M => by rw [Nat.add_zero, k_loop]; exact end48 N d _ _ _ _, fun N d M => ?_⟩
    rw [Nat.add_zero, k_loop, List.take_of_length_le (by omega)]
    exact end45b N (d + 1) _ _ (by rw [wrow_len]; exact hw)
  | succ n ih =>
    intro k ws hk h16 hw
    have wget : ∀ j, j < k → ∃ x, (wL ws)[j]? = some (.i .u32 x) ∧ (wrow (ws.take k))[j]? = some [.i .u32 x] := fun j hj => by
      obtain ⟨x, h⟩ := get_of hw (show j < 64 by omega)
      exact ⟨x, by rw [wL_get, h]; rfl, by rw [wrow_get, take_get hj, h]; rfl⟩
    obtain ⟨x0, h0, g0⟩ := wget (k - 15) (by omega)
    obtain ⟨x1, h1, g1⟩ := wget (k - 2) (by omega)
    obtain ⟨x2, h2, g2⟩ := wget (k - 16) (by omega)
    obtain ⟨x3, h3, g3⟩ := wget (k - 7) (by omega)
    obtain ⟨y, hy, hz⟩ := stepJb k (byL xs) (wrow (ws.take k)) zs (wL ws) x0 x1 x2 x3 (by omega) h16 (by rw [wL_len]; exact hw) (by rw [wrow_len, List.length_take]; omega) h0 h1 h2 h3 g0 g1 g2 g3
    obtain ⟨ws', i1, i2, i3⟩ := ih (k + 1) (ws.set k y) (by omega) (by omega) (by simpa using hw)
    refine ⟨ws', i1, fun N d M => ?_, fun N d M => ?_⟩
    · rw [show M + 1 + (n + 1) = (M + 1 + n) + 1 by omega, k_loop, hy, wL_set]
      exact i2 N d M
    · rw [show M + 1 + (n + 1) = (M + 1 + n) + 1 by omega, k_loop, hz, wrow_app, ← take_set (by omega)]
      exact i3 N d M
theorem loopJa (xs : List Int) (hx : xs.length = 64) (hb : ∀ n ∈ xs, 0 ≤ n ∧ n ≤ 255) (zs : List PV) : ∀ (n k : Nat) (ws : List Int), k + n = 16 → ws.length = 64 → ∃ ws', ws'.length = 64 ∧
    (∀ N d M : Nat, loopC (m100b0 (sem tab N (d + 2)) N []) (M + 1 + (48 + n)) (sl48 (byL xs) k) (ob48 zs (wL ws)) = some (.agg [.blob 64 (wL ws')], [])) ∧
    ∀ N d M : Nat, loopC (m102b1 (sem tab (N + 49) (d + 1)) (N + 49) []) (M + 1 + n) (sl45 (byL xs) k k) (ob45 (wrow (ws.take k))) = some (.sl 0 0 0 64, [row (wrow ws') 1 true]) := by
  intro n
  induction n with
  | zero =>
    intro k ws hk hw
    have : k = 16 := by omega
    subst this
    obtain ⟨ws', i1, i2, i3⟩ := loopJb xs zs 48 16 ws rfl (by omega) hw
    refine ⟨ws', i1, fun N d M => i2 N d M, fun N d M => ?_⟩
    have h := i3 (N + 49) d N
    rw [show N + 1 + 48 = N + 49 by omega] at h
    rw [Nat.add_zero, k_loop, show ((16 : Nat) : Int) = 16 from rfl, mid45 (N + 49) (d + 1) _ (byL xs) (wrow (ws.take 16)) (by rw [wrow_len, List.length_take]; omega)]
    exact h
  | succ n ih =>
    intro k ws hk hw
    have bget : ∀ j, j < 64 → ∃ x, (byL xs)[j]? = some [.i .u8 x] ∧ 0 ≤ x ∧ x ≤ 255 := fun j hj => by
      have hj' : j < xs.length := by omega
      exact ⟨xs[j], by rw [byL_get, List.getElem?_eq_getElem hj']; rfl, hb _ (List.getElem_mem hj')⟩
    obtain ⟨x0, h0, r0⟩ := bget (4 * k) (by omega)
    obtain ⟨x1, h1, r1⟩ := bget (4 * k + 1) (by omega)
    obtain ⟨x2, h2, r2⟩ := bget (4 * k + 2) (by omega)
    obtain ⟨x3, h3, r3⟩ := bget (4 * k + 3) (by omega)
    have hy := stepJa48 k (byL xs) zs (wL ws) x0 x1 x2 x3 (by omega) (by rw [wL_len]; exact hw) h0 h1 h2 h3
    have hz := stepJa45 k (byL xs) (wrow (ws.take k)) x0 x1 x2 x3 (by omega) (by rw [wrow_len, List.length_take]; omega) h0 h1 h2 h3
    rw [← word_eq r0 r1 r2 r3] at hz
    generalize word48 x0 x1 x2 x3 = y at *
    obtain ⟨ws', i1, i2, i3⟩ := ih (k + 1) (ws.set k y) (by omega) (by simpa using hw)
    refine ⟨ws', i1, fun N d M => ?_, fun N d M => ?_⟩
    · rw [show M + 1 + (48 + (n + 1)) = (M + 1 + (48 + n)) + 1 by omega, k_loop, hy, wL_set]
      exact i2 N d M
    · rw [show M + 1 + (n + 1) = (M + 1 + n) + 1 by omega, k_loop, hz, wrow_app, ← take_set (by omega)]
      exact i3 N d M
set_option maxHeartbeats 4000000 in
/-- A block's numbers, here and there. -/
theorem J48 (xs : List Int) (hx : xs.length = 64) (hb : ∀ n ∈ xs, 0 ≤ n ∧ n ≤ 255) : ∃ ws : List Int, ws.length = 64 ∧
    (∀ M d : Nat, sem tab (M + 65) (d + 3) 100 [.l false (byL xs)] [] = some (.agg [.blob 64 (wL ws)], [])) ∧
    ∀ M d : Nat, sem tab (M + 65) (d + 2) 102 [.l false (byL xs)] [] = some (.sl 0 0 0 64, [row (wrow ws) 1 true]) := by
  obtain ⟨ws, h1, h2, h3⟩ := loopJa xs hx hb (List.replicate 64 (.i .u32 0)) 16 0 (List.replicate 64 0) rfl (by simp)
  refine ⟨ws, h1, fun M d => ?_, fun M d => ?_⟩
  · have h2 := h2 (M + 65) d M
    rw [sem_succ tab (M + 65) (d + 2) 100 m100 rfl]
    have e : wL (List.replicate 64 0) = List.replicate 64 (.i .u32 0) := by simp [wL]
    rw [e] at h2
    generalize byL xs = b at *
    generalize hz : List.replicate 64 (PV.i IntKind.u32 0) = z at *
    simp only [sl48, ob48, box, Nat.add_assoc] at h2
    simp -implicitDefEqProofs (maxSteps := 1000000) (disch := first | omega | rfl) [m100, hz, KS, getS, getO, gS, zipN, dropW, takeW, wds, stvs, sea, seaL, refs, refsL, refsEls, refsO, isPureEls, isPures, isPure, noExt, noExts, noExtEls, cellsL, ren, renL, renEls, keepO, keepS, keysO, refsS, refsOB, cntN, headC, setS, boxO, row, putW, putB, putB1, eNl, newOs, frz, renO, noExtO, zps, zp, two32, w64, -getElem?_pos]
    exact h2
  · have h3 := h3 (M + 16) d (M + 48)
    rw [sem_succ tab (M + 65) (d + 1) 102 m102 rfl]
    generalize byL xs = b at *
    generalize wrow ws = w at *
    simp only [sl45, ob45, row, List.take_zero, wrow, List.map_nil, Nat.add_assoc] at h3
    simp -implicitDefEqProofs (maxSteps := 1000000) (disch := first | omega | rfl) [m102, KS, getS, getO, gS, zipN, dropW, takeW, wds, stvs, sea, seaL, refs, refsL, refsEls, refsO, isPureEls, isPures, isPure, noExt, noExts, noExtEls, cellsL, ren, renL, renEls, keepO, keepS, keysO, refsS, refsOB, cntN, headC, setS, boxO, row, putW, putB, putB1, eNl, newOs, frz, renO, noExtO, zps, zp, two32, w64, -getElem?_pos]
    exact h3
end
/-! ## PureRd -/
section
def sl40 (x0 x1 x2 x3 x4 x5 x6 x7 k : Int) : SL := [(2, .p 80 0 0 0 none), (4, .p 96 0 0 0 none), (5, .sl 208 0 0 64), (6, .i .u32 x0), (7, .i .u32 x1), (8, .i .u32 x2), (9, .i .u32 x3), (10, .i .u32 x4), (11, .i .u32 x5), (12, .i .u32 x6), (13, .i .u32 x7), (14, .i .i64 k)]
def ob40 (r z : List PV) (w : List (List PV)) : OB := [(80, box [.blob 8 r] 8), (96, box [.blob 8 z] 8), (208, row w 1 true)]
set_option maxHeartbeats 8000000 in
theorem stepJ43 (k : Nat) (r z w mm : List PV) (wr : List (List PV)) (x0 x1 x2 x3 x4 x5 x6 x7 wk mk : Int) (hk : k < 64) (hm : gMore = [.blob 64 mm]) (h0 : w[k]? = some (.i .u32 wk)) (g0 : wr[k]? = some [.i .u32 wk]) (hwr : wr.length = 64) (h1 : mm[k]? = some (.i .u32 mk))
    (h47 : ∀ N d : Nat, sem tab N (d + 1) 104 [.i .i64 k] [] = some (.i .u32 mk, [])) :
    ∃ t u, (∀ (N d : Nat) (g : SL → OB → Option R), m94b1 (sem tab N (d + 2)) N [] g (sl43 k) (ob43 r z w [.i .u32 x0, .i .u32 x1, .i .u32 x2, .i .u32 x3, .i .u32 x4, .i .u32 x5, .i .u32 x6, .i .u32 x7]) =
      g (sl43 (k + 1 : Nat)) (ob43 r z w [.i .u32 t, .i .u32 x0, .i .u32 x1, .i .u32 x2, .i .u32 u, .i .u32 x4, .i .u32 x5, .i .u32 x6])) ∧
      ∀ (N d : Nat) (g : SL → OB → Option R), m96b0 (sem tab N (d + 1)) N [] g (sl40 x0 x1 x2 x3 x4 x5 x6 x7 k) (ob40 r z wr) = g (sl40 t x0 x1 x2 u x4 x5 x6 (k + 1 : Nat)) (ob40 r z wr) := by
  have c1 : (k : Int) < 64 := by omega
  have c3 : (0 : Int) ≤ k := by omega
  apply Exists.intro
  apply Exists.intro
  constructor
  · intro N d g
    simp -implicitDefEqProofs (maxSteps := 1000000) (disch := first | omega | rfl) [m94b1, sl43, ob43, box, hm, turn6, turn11, turn25, turn2, turn13, turn22, hk, c1, c3, h0, h1, k_com, binI, KS, getS, getO, gS, zipN, dropW, takeW, wds, stvs, sea, seaL, refs, refsL, refsEls, refsO, isPureEls, isPures, isPure, noExt, noExts, noExtEls, cellsL, ren, renL, renEls, keepO, keepS, keysO, refsS, refsOB, cntN, headC, setS, boxO, row, putW, putB, putB1, eNl, newOs, frz, renO, noExtO, zps, zp, two32, w64, -getElem?_pos]
    rfl
  · intro N d g
    have h47 := h47 N d
    simp -implicitDefEqProofs (maxSteps := 1000000) (disch := first | omega | rfl) [m96b0, sl40, ob40, box, t46_6, t46_11, t46_25, t46_2, t46_13, t46_22, hk, c1, c3, g0, hwr, h47, k_com, binI, KS, getS, getO, gS, zipN, dropW, takeW, wds, stvs, sea, seaL, refs, refsL, refsEls, refsO, isPureEls, isPures, isPure, noExt, noExts, noExtEls, cellsL, ren, renL, renEls, keepO, keepS, keysO, refsS, refsOB, cntN, headC, setS, boxO, row, putW, putB, putB1, eNl, newOs, frz, renO, noExtO, zps, zp, two32, w64, -getElem?_pos]
theorem addE_comm (a b : Int) : IntKind.u32.wrap (a + b) = IntKind.u32.wrap (b + a) := by rw [Int.add_comm]
set_option maxHeartbeats 4000000 in
theorem step43c (k : Nat) (r z x : List PV) (a b : Int) (hk : k < 8) (hx : x.length = 8) (h0 : x[k]? = some (.i .u32 a)) (h1 : r[k]? = some (.i .u32 b)) :
    ∀ (N d : Nat) (g : SL → OB → Option R), m94b0 (sem tab N (d + 2)) N [] g (sl43b k) (ob43b r z x) = g (sl43b (k + 1 : Nat)) (ob43b r z (x.set k (.i .u32 (IntKind.u32.wrap (a + b))))) := by
  have c1 : (k : Int) < 8 := by omega
  have c3 : (0 : Int) ≤ k := by omega
  intro N d g
  simp -implicitDefEqProofs (maxSteps := 1000000) (disch := first | omega | rfl) [m94b0, sl43b, ob43b, box, hk, hx, c1, c3, h0, h1, KS, getS, getO, gS, zipN, dropW, takeW, wds, stvs, sea, seaL, refs, refsL, refsEls, refsO, isPureEls, isPures, isPure, noExt, noExts, noExtEls, cellsL, ren, renL, renEls, keepO, keepS, keysO, refsS, refsOB, cntN, headC, setS, boxO, row, putW, putB, putB1, eNl, newOs, frz, renO, noExtO, zps, zp, two32, w64, -getElem?_pos]
set_option maxHeartbeats 8000000 in
theorem fin43 (N d M : Nat) (z : List PV) (x0 x1 x2 x3 x4 x5 x6 x7 r0 r1 r2 r3 r4 r5 r6 r7 : Int) :
    loopC (m94b0 (sem tab N (d + 2)) N []) (M + 9) (sl43b 0) (ob43b (wL [r0, r1, r2, r3, r4, r5, r6, r7]) z (wL [x0, x1, x2, x3, x4, x5, x6, x7])) = some (.agg [.blob 8 (wL [IntKind.u32.wrap (x0 + r0), IntKind.u32.wrap (x1 + r1), IntKind.u32.wrap (x2 + r2), IntKind.u32.wrap (x3 + r3), IntKind.u32.wrap (x4 + r4), IntKind.u32.wrap (x5 + r5), IntKind.u32.wrap (x6 + r6), IntKind.u32.wrap (x7 + r7)])], []) := by
  have e : (0 : Int) = ((0 : Nat) : Int) := rfl
  rw [e, show M + 9 = (M + 8) + 1 from rfl, k_loop, step43c 0 _ _ _ x0 r0 (by omega) rfl rfl rfl]
  rw [k_loop, step43c (0 + 1) _ _ _ x1 r1 (by omega) rfl rfl rfl]
  rw [k_loop, step43c (0 + 1 + 1) _ _ _ x2 r2 (by omega) rfl rfl rfl]
  rw [k_loop, step43c (0 + 1 + 1 + 1) _ _ _ x3 r3 (by omega) rfl rfl rfl]
  rw [k_loop, step43c (0 + 1 + 1 + 1 + 1) _ _ _ x4 r4 (by omega) rfl rfl rfl]
  rw [k_loop, step43c (0 + 1 + 1 + 1 + 1 + 1) _ _ _ x5 r5 (by omega) rfl rfl rfl]
  rw [k_loop, step43c (0 + 1 + 1 + 1 + 1 + 1 + 1) _ _ _ x6 r6 (by omega) rfl rfl rfl]
  rw [k_loop, step43c (0 + 1 + 1 + 1 + 1 + 1 + 1 + 1) _ _ _ x7 r7 (by omega) rfl rfl rfl]
  rw [k_loop]
  exact end43b N d _ _ _ _
set_option maxHeartbeats 8000000 in
theorem fin40 (N d : Nat) (g : SL → OB → Option R) (z : List PV) (wr : List (List PV)) (x0 x1 x2 x3 x4 x5 x6 x7 r0 r1 r2 r3 r4 r5 r6 r7 : Int) :
    m96b0 (sem tab N (d + 1)) N [] g (sl40 x0 x1 x2 x3 x4 x5 x6 x7 64) (ob40 (wL [r0, r1, r2, r3, r4, r5, r6, r7]) z wr) = some (.agg [.blob 8 (wL [IntKind.u32.wrap (x0 + r0), IntKind.u32.wrap (x1 + r1), IntKind.u32.wrap (x2 + r2), IntKind.u32.wrap (x3 + r3), IntKind.u32.wrap (x4 + r4), IntKind.u32.wrap (x5 + r5), IntKind.u32.wrap (x6 + r6), IntKind.u32.wrap (x7 + r7)])], []) := by
  have e : ∀ a0 a1 a2 a3 a4 a5 a6 a7 : Int, wL [a0, a1, a2, a3, a4, a5, a6, a7] = [.i .u32 a0, .i .u32 a1, .i .u32 a2, .i .u32 a3, .i .u32 a4, .i .u32 a5, .i .u32 a6, .i .u32 a7] := fun _ _ _ _ _ _ _ _ => rfl
  rw [addE_comm x0, addE_comm x1, addE_comm x2, addE_comm x3, addE_comm x4, addE_comm x5, addE_comm x6, addE_comm x7, e, e]
  simp -implicitDefEqProofs (maxSteps := 1000000) (disch := first | omega | rfl) [m96b0, sl40, ob40, box, KS, getS, getO, gS, zipN, dropW, takeW, wds, stvs, sea, seaL, refs, refsL, refsEls, refsO, isPureEls, isPures, isPure, noExt, noExts, noExtEls, cellsL, ren, renL, renEls, keepO, keepS, keysO, refsS, refsOB, cntN, headC, setS, boxO, row, putW, putB, putB1, eNl, newOs, frz, renO, noExtO, zps, zp, two32, w64, -getElem?_pos]
end
/-! ## PureRe -/
section
theorem wL_inj {a b : List Int} (h : wL a = wL b) : a = b := by
  have : ∀ (a b : List Int), wL a = wL b → a = b := by
    intro a
    induction a with
    | nil => intro b h; cases b with
      | nil => rfl
      | cons y b => simp [wL] at h
    | cons x a ih => intro b h; cases b with
      | nil => simp [wL] at h
      | cons y b =>
        simp only [wL, List.map_cons, List.cons.injEq, PV.i.injEq, true_and] at h
        rw [h.1, ih b h.2]
  exact this a b h
theorem loopJ43 (r0 r1 r2 r3 r4 r5 r6 r7 : Int) (ws : List Int) (hw : ws.length = 64) (z : List PV) : ∀ (n k : Nat) (x0 x1 x2 x3 x4 x5 x6 x7 : Int), k + n = 64 → ∃ ys : List Int, ys.length = 8 ∧ (∀ y ∈ ys, 0 ≤ y ∧ y < 4294967296) ∧
    (∀ M' d M : Nat, loopC (m94b1 (sem tab (M' + 9) (d + 2)) (M' + 9) []) (M + 1 + n) (sl43 k) (ob43 (wL [r0, r1, r2, r3, r4, r5, r6, r7]) z (wL ws) (wL [x0, x1, x2, x3, x4, x5, x6, x7])) = some (.agg [.blob 8 (wL ys)], [])) ∧
    ∀ N d M : Nat, loopC (m96b0 (sem tab N (d + 1)) N []) (M + 1 + n) (sl40 x0 x1 x2 x3 x4 x5 x6 x7 k) (ob40 (wL [r0, r1, r2, r3, r4, r5, r6, r7]) z (wrow ws)) = some (.agg [.blob 8 (wL ys)], []) := by
  intro n
  induction n with
  | zero =>
    intro k x0 x1 x2 x3 x4 x5 x6 x7 hk
    have : k = 64 := by omega
    subst this
    refine ⟨[IntKind.u32.wrap (x0 + r0), IntKind.u32.wrap (x1 + r1), IntKind.u32.wrap (x2 + r2), IntKind.u32.wrap (x3 + r3), IntKind.u32.wrap (x4 + r4), IntKind.u32.wrap (x5 + r5), IntKind.u32.wrap (x6 + r6), IntKind.u32.wrap (x7 + r7)], rfl, fun y hy => ?_, fun M' d M => ?_, fun N d M => ?_⟩
    · simp only [List.mem_cons, List.not_mem_nil, or_false] at hy
      rcases hy with rfl | rfl | rfl | rfl | rfl | rfl | rfl | rfl <;> rw [IntKind.wrap_u32] <;> omega
    · rw [Nat.add_zero, k_loop]
      have h := mid43 (M' + 9) d (loopC (m94b1 (sem tab (M' + 9) (d + 2)) (M' + 9) []) M) (wL [r0, r1, r2, r3, r4, r5, r6, r7]) z (wL ws) (wL [x0, x1, x2, x3, x4, x5, x6, x7])
      rw [show ((64 : Nat) : Int) = 64 from rfl, h]
      exact fin43 (M' + 9) d M' z x0 x1 x2 x3 x4 x5 x6 x7 r0 r1 r2 r3 r4 r5 r6 r7
    · rw [Nat.add_zero, k_loop]
      exact fin40 N d _ z (wrow ws) x0 x1 x2 x3 x4 x5 x6 x7 r0 r1 r2 r3 r4 r5 r6 r7
  | succ n ih =>
    intro k x0 x1 x2 x3 x4 x5 x6 x7 hk
    obtain ⟨wk, hwk⟩ := get_of hw (show k < 64 by omega)
    obtain ⟨mk, hmk, h47⟩ : ∃ mk, nMore[k]? = some mk ∧ ∀ N d : Nat, sem tab N (d + 1) 104 [.i .i64 k] [] = some (.i .u32 mk, []) := by
      obtain ⟨mk, h, _⟩ := t47 0 0 k (by omega)
      refine ⟨mk, h, fun N d => ?_⟩
      obtain ⟨mk', h', h''⟩ := t47 N d k (by omega)
      rw [h] at h'
      obtain rfl := Option.some.inj h'
      exact h''
    have e : ∀ a0 a1 a2 a3 a4 a5 a6 a7 : Int, wL [a0, a1, a2, a3, a4, a5, a6, a7] = [.i .u32 a0, .i .u32 a1, .i .u32 a2, .i .u32 a3, .i .u32 a4, .i .u32 a5, .i .u32 a6, .i .u32 a7] := fun _ _ _ _ _ _ _ _ => rfl
    obtain ⟨t, u, h1, h2⟩ := stepJ43 k (wL [r0, r1, r2, r3, r4, r5, r6, r7]) z (wL ws) (nMore.map (.i .u32)) (wrow ws) x0 x1 x2 x3 x4 x5 x6 x7 wk mk (by omega) rfl (by rw [wL_get, hwk]; rfl) (by rw [wrow_get, hwk]; rfl) (by rw [wrow_len]; exact hw) (by rw [List.getElem?_map, hmk]; rfl) h47
    obtain ⟨ys, i1, i0, i2, i3⟩ := ih (k + 1) t x0 x1 x2 u x4 x5 x6 (by omega)
    refine ⟨ys, i1, i0, fun M' d M => ?_, fun N d M => ?_⟩
    · rw [show M + 1 + (n + 1) = (M + 1 + n) + 1 by omega, k_loop, e x0, h1, ← e t]
      exact i2 M' d M
    · rw [show M + 1 + (n + 1) = (M + 1 + n) + 1 by omega, k_loop, h2]
      exact i3 N d M
set_option maxHeartbeats 4000000 in
/-- A round, here and there. -/
theorem J43 (rs xs : List Int) (hr : rs.length = 8) (hx : xs.length = 64) (hb : ∀ n ∈ xs, 0 ≤ n ∧ n ≤ 255) : ∃ ys : List Int, ys.length = 8 ∧ (∀ y ∈ ys, 0 ≤ y ∧ y < 4294967296) ∧
    (∀ M d : Nat, sem tab (M + 65) (d + 4) 94 [.agg [.blob 8 (wL rs)], .l false (byL xs)] [] = some (.agg [.blob 8 (wL ys)], [])) ∧
    ∀ M d : Nat, sem tab (M + 65) (d + 3) 96 [.agg [.blob 8 (wL rs)], .l false (byL xs)] [] = some (.agg [.blob 8 (wL ys)], []) := by
  obtain ⟨ws, hw, h48, h45⟩ := J48 xs hx hb
  obtain ⟨r0, r1, r2, r3, r4, r5, r6, r7, rfl⟩ := eight hr
  obtain ⟨ys, h1, h0, h2, h3⟩ := loopJ43 r0 r1 r2 r3 r4 r5 r6 r7 ws hw (List.replicate 8 (.i .u32 0)) 64 0 r0 r1 r2 r3 r4 r5 r6 r7 rfl
  refine ⟨ys, h1, h0, fun M d => ?_, fun M d => ?_⟩
  · have h48 := h48 M d
    have h2 := h2 (M + 56) (d + 1) M
    rw [sem_succ tab (M + 65) (d + 3) 94 m94 rfl]
    generalize byL xs = b at *
    generalize wL [r0, r1, r2, r3, r4, r5, r6, r7] = r at *
    generalize wL ws = w at *
    generalize wL ys = y at *
    generalize hz : List.replicate 8 (PV.i IntKind.u32 0) = z at *
    generalize hz2 : List.replicate 64 (PV.i IntKind.u32 0) = z2 at *
    simp only [sl43, ob43, box, Nat.add_assoc] at h2
    simp -implicitDefEqProofs (maxSteps := 1000000) (disch := first | omega | rfl) [m94, hz, hz2, h48, KS, getS, getO, gS, zipN, dropW, takeW, wds, stvs, sea, seaL, refs, refsL, refsEls, refsO, isPureEls, isPures, isPure, noExt, noExts, noExtEls, cellsL, ren, renL, renEls, keepO, keepS, keysO, refsS, refsOB, cntN, headC, setS, boxO, row, putW, putB, putB1, eNl, newOs, frz, renO, noExtO, zps, zp, two32, w64, -getElem?_pos]
    exact h2
  · have h45 := h45 M d
    have h3 := h3 (M + 65) (d + 1) M
    rw [sem_succ tab (M + 65) (d + 2) 96 m96 rfl]
    have e : wL [r0, r1, r2, r3, r4, r5, r6, r7] = [.i .u32 r0, .i .u32 r1, .i .u32 r2, .i .u32 r3, .i .u32 r4, .i .u32 r5, .i .u32 r6, .i .u32 r7] := rfl
    rw [e] at h3 ⊢
    have hwl := wrow_len ws
    rw [hw] at hwl
    generalize byL xs = b at *
    generalize wrow ws = w at *
    generalize wL ys = y at *
    generalize hz : List.replicate 8 (PV.i IntKind.u32 0) = z at *
    simp only [sl40, ob40, box, row, Nat.add_assoc] at h3
    simp -implicitDefEqProofs (maxSteps := 1000000) (disch := first | omega | rfl) [m96, hz, h45, hwl, KS, getS, getO, gS, zipN, dropW, takeW, wds, stvs, sea, seaL, refs, refsL, refsEls, refsO, isPureEls, isPures, isPure, noExt, noExts, noExtEls, cellsL, ren, renL, renEls, keepO, keepS, keysO, refsS, refsOB, cntN, headC, setS, boxO, row, putW, putB, putB1, eNl, newOs, frz, renO, noExtO, zps, zp, two32, w64, -getElem?_pos]
    exact h3
theorem L40 (M d : Nat) (rs xs : List Int) (hr : rs.length = 8) (hx : xs.length = 64) (hb : ∀ n ∈ xs, 0 ≤ n ∧ n ≤ 255) : sem tab (M + 65) (d + 3) 96 [.agg [.blob 8 (wL rs)], .l false (byL xs)] [] = some (.agg [.blob 8 (wL (rnd rs xs))], []) := by
  obtain ⟨ys, h1, h0, h2, h3⟩ := J43 rs xs hr hx hb
  have e := (h2 0 0).symm.trans (L43 0 0 rs xs hr hx)
  have e : wL ys = wL (rnd rs xs) := by
    injection e with e; injection e with e; injection e with e; injection e with e; injection e with e
  rw [← e]; exact h3 M d
theorem rnd_range (rs xs : List Int) (hr : rs.length = 8) (h : ∀ y ∈ rs, 0 ≤ y ∧ y < 4294967296) (hb : ∀ n ∈ xs, 0 ≤ n ∧ n ≤ 255) : ∀ y ∈ rnd rs xs, 0 ≤ y ∧ y < 4294967296 := by
  by_cases hx : xs.length = 64
  · obtain ⟨ys, h1, h0, h2, h3⟩ := J43 rs xs hr hx hb
    have e := (h2 0 0).symm.trans (L43 0 0 rs xs hr hx)
    have e : wL ys = wL (rnd rs xs) := by
      injection e with e; injection e with e; injection e with e; injection e with e; injection e with e
    rw [← wL_inj e]; exact h0
  · unfold rnd
    rw [dif_neg (fun h => hx h.2)]; exact h
theorem rounds_range : ∀ (n : Nat) (rs xs : List Int), xs.length ≤ n → rs.length = 8 → (∀ y ∈ rs, 0 ≤ y ∧ y < 4294967296) → (∀ n ∈ xs, 0 ≤ n ∧ n ≤ 255) → ∀ y ∈ (rounds rs xs).1, 0 ≤ y ∧ y < 4294967296 := by
  intro n
  induction n with
  | zero =>
    intro rs xs h hr h1 hb
    rw [rounds_short (by omega)]; exact h1
  | succ n ih =>
    intro rs xs h hr h1 hb
    by_cases hx : xs.length < 64
    · rw [rounds_short hx]; exact h1
    · rw [rounds_long hx]
      exact ih _ _ (by simp; omega) (rnd_len _ _ hr) (rnd_range _ _ hr h1 (fun n hn => hb n (List.mem_of_mem_take hn))) (fun n hn => hb n (List.mem_of_mem_drop hn))
end
/-! ## PureRf -/
section
theorem L17 (N d : Nat) (ns xs : List Int) (L : Int) : sem tab N (d + 1) 95 [hashV ns false xs L] [] = some (.b (mayB xs.length L), []) := by
  rw [← L23 N d ns xs L, sem_succ tab N d 95 m95 rfl, sem_succ tab N d 84 m84 rfl]
  rfl
theorem L22 (N d : Nat) : sem tab N (d + 1) 90 [] [] = some (hashV nFirst true [] 0, []) := by
  rw [sem_succ tab N d 90 m90 rfl]
  rfl
def rowv (t : List (List PV)) (v : Nat) : Obj' := { els := t, w := 1, pu := true, g := true, cap := none, ver := v, fro := false }
def sl20 (v i n : Nat) : SL := [(4, .p 96 0 0 0 none), (6, .sl 248 v i n), (7, .p 120 0 0 0 none)]
def ob20 (hc : List PV) (r : List PV) (L : Int) (t : List (List PV)) (v : Nat) : OB := [(96, box hc 10), (120, box [.blob 8 r, .e true, .i .i64 L] 10), (248, rowv t v)]
set_option maxHeartbeats 4000000 in
theorem step20 (M d : Nat) (g : SL → OB → Option R) (rs T : List Int) (L : Int) (z8 : List PV) (v i n : Nat) (hr : rs.length = 8) (hn : 64 ≤ n) (hi : i + n = T.length) (hb : ∀ n ∈ T, 0 ≤ n ∧ n ≤ 255) :
    m89b0 (sem tab (M + 65) (d + 3)) (M + 65) [] g (sl20 v i n) (ob20 [.blob 8 z8, .e true, .i .i64 0] (wL rs) L (byL T) v) = g (sl20 v (i + 64) (n - 64)) (ob20 [.blob 8 z8, .e true, .i .i64 0] (wL (rnd rs ((T.drop i).take 64))) L (byL T) v) := by
  have h40 := L40 M d rs ((T.drop i).take 64) hr (by simp; omega) (fun x hx => hb x (List.mem_of_mem_drop (List.mem_of_mem_take hx)))
  have hl := byL_len T
  have e : List.take 64 (List.drop i (byL T)) = byL ((T.drop i).take 64) := by rw [byL_drop, byL_take]
  rw [← e] at h40
  rw [← hl] at hi
  generalize byL T = t at *
  generalize wL (rnd rs ((T.drop i).take 64)) = r2 at *
  generalize wL rs = r at *
  have c1 : 64 ≤ (n : Int) := by omega
  have c2 : i + 64 ≤ t.length := by omega
  have c3 : (64 : Int) ≤ n := by omega
  have c4 : i + n ≤ t.length := by omega
  have c5 : (i : Int) + 64 ≤ t.length := by omega
  have c6 : (i : Int) + n ≤ t.length := by omega
  simp -implicitDefEqProofs (maxSteps := 1000000) (disch := first | omega | rfl) [m89b0, sl20, ob20, box, rowv, hn, c1, c2, c3, c4, c5, c6, h40, KS, getS, getO, gS, zipN, dropW, takeW, wds, stvs, sea, seaL, refs, refsL, refsEls, refsO, isPureEls, isPures, isPure, noExt, noExts, noExtEls, cellsL, ren, renL, renEls, keepO, keepS, keysO, refsS, refsOB, cntN, headC, setS, boxO, row, putW, putB, putB1, eNl, newOs, frz, renO, noExtO, zps, zp, two32, w64, -getElem?_pos]
set_option maxHeartbeats 4000000 in
theorem end20 (N d : Nat) (g : SL → OB → Option R) (r : List PV) (t : List (List PV)) (L : Int) (z8 : List PV) (v i n : Nat) (hn : n < 64) (hi : i + n = t.length) :
    m89b0 (sem tab N d) N [] g (sl20 v i n) (ob20 [.blob 8 z8, .e true, .i .i64 0] r L t v) = some (.agg [.blob 8 r, .l true (t.drop i), .i .i64 L], []) := by
  have c1 : ¬ (64 ≤ (n : Int)) := by omega
  have c2 : ¬ (64 ≤ n) := by omega
  have c4 : i + n ≤ t.length := by omega
  have ht : List.take n (List.drop i t) = List.drop i t := List.take_of_length_le (by simp; omega)
  simp -implicitDefEqProofs (maxSteps := 1000000) (disch := first | omega | rfl) [m89b0, sl20, ob20, box, rowv, hn, c1, c2, c4, ht, KS, getS, getO, gS, zipN, dropW, takeW, wds, stvs, sea, seaL, refs, refsL, refsEls, refsO, isPureEls, isPures, isPure, noExt, noExts, noExtEls, cellsL, ren, renL, renEls, keepO, keepS, keysO, refsS, refsOB, cntN, headC, setS, boxO, row, putW, putB, putB1, eNl, newOs, frz, renO, noExtO, zps, zp, two32, w64, -getElem?_pos]
theorem loop20 (T : List Int) (L : Int) (z8 : List PV) (v : Nat) (hb : ∀ n ∈ T, 0 ≤ n ∧ n ≤ 255) : ∀ (j i : Nat) (rs : List Int) (M d M' : Nat), i ≤ T.length → T.length - i ≤ 64 * j → rs.length = 8 →
    loopC (m89b0 (sem tab (M + 65) (d + 3)) (M + 65) []) (M' + 1 + j) (sl20 v i (T.length - i)) (ob20 [.blob 8 z8, .e true, .i .i64 0] (wL rs) L (byL T) v) = some (hashV (rounds rs (T.drop i)).1 true (rounds rs (T.drop i)).2 L, []) := by
  intro j
  induction j with
  | zero =>
    intro i rs M d M' hi hj hr
    rw [Nat.add_zero, k_loop, rounds_short (by simp; omega), end20 _ _ _ _ _ _ _ _ _ _ (by omega) (by rw [byL_len]; omega), byL_drop]
    rfl
  | succ j ih =>
    intro i rs M d M' hi hj hr
    rw [show M' + 1 + (j + 1) = (M' + 1 + j) + 1 by omega, k_loop]
    by_cases h : T.length - i < 64
    · rw [rounds_short (by simp; omega), end20 _ _ _ _ _ _ _ _ _ _ (by omega) (by rw [byL_len]; omega), byL_drop]
      rfl
    · rw [step20 M d _ rs T L z8 v i _ hr (by omega) (by omega) hb, rounds_long (by simp; omega), List.drop_drop, show T.length - i - 64 = T.length - (i + 64) by omega]
      exact ih (i + 64) _ M d M' (by omega) (by omega) (rnd_len _ _ hr)
end
/-! ## PureRg -/
section
set_option maxHeartbeats 8000000 in
/-- What is added, in the document. -/
theorem L20 (M d : Nat) (ns xs ys : List Int) (L : Int) (hn : ns.length = 8) (hm : mayB xs.length L = true) (hL : (ys.length : Int) ≤ 1048576 - L) (h : xs.length + ys.length ≤ 57600)
    (hbx : ∀ n ∈ xs, 0 ≤ n ∧ n ≤ 255) (hby : ∀ n ∈ ys, 0 ≤ n ∧ n ≤ 255) :
    sem tab (M + 1000) (d + 4) 89 [hashV ns false xs L, .l false (byL ys)] [] = some (hashV (rounds ns (xs ++ ys)).1 true (rounds ns (xs ++ ys)).2 (L + ys.length), []) := by
  rw [sem_succ tab (M + 1000) (d + 3) 89 m89 rfl]
  have h17 := L17 (M + 1000) (d + 2) ns xs L
  rw [hm] at h17
  have hb : ∀ n ∈ xs ++ ys, 0 ≤ n ∧ n ≤ 255 := fun n hn => by
    rcases List.mem_append.1 hn with h | h
    · exact hbx n h
    · exact hby n h
  have k0 := loop20 (xs ++ ys) (L + ys.length) (List.replicate 8 (.i .u32 0)) 0 hb 900 0 ns (M + 935) d (M + 99) (by omega) (by simp; omega) hn
  have k1 := loop20 (xs ++ ys) (L + ys.length) (List.replicate 8 (.i .u32 0)) 1 hb 900 0 ns (M + 935) d (M + 99) (by omega) (by simp; omega) hn
  rw [List.drop_zero, Nat.sub_zero, List.length_append, ← byL_app] at k0 k1
  have hL0 : 0 ≤ L := by simp [mayB] at hm; exact hm.1
  have hx := byL_len xs
  have hy := byL_len ys
  have fx := flat_by xs
  have wx := allW_by xs
  have fy := flat_by ys
  have wy := allW_by ys
  simp only [hashV_wL] at h17 k0 k1 ⊢
  rw [← hx, ← hy] at h k0 k1
  rw [← hy] at hL ⊢
  generalize byL (rounds ns (xs ++ ys)).2 = q at *
  generalize wL (rounds ns (xs ++ ys)).1 = r2 at *
  generalize byL xs = a at *
  generalize byL ys = b at *
  generalize wL ns = r at *
  generalize hz : List.replicate 8 (PV.i IntKind.u32 0) = zz at *
  have n1 : ¬ ((b.length : Int) > 1048576 - L) := by omega
  have n2 : ¬ (1048576 - L < (b.length : Int)) := by omega
  have p1 : a.length ≤ 4294967296 := by omega
  have p2 : a.length + b.length ≤ 4294967296 := by omega
  have ht : List.take a.length a = a := List.take_length
  by_cases hb : b = []
  · subst hb
    simp only [sl20, ob20, box, rowv, List.append_nil, List.length_nil, Nat.add_zero, Nat.add_assoc] at k0
    rw [show ((0 : Nat) : Int) = 0 from rfl] at k0
    simp only [Int.add_zero] at k0
    have n3 : ¬ (1048576 - L < 0) := by simp only [List.length_nil] at n2; omega
    simp -implicitDefEqProofs (maxSteps := 1000000) (disch := first | omega | rfl) [m89, hz, h17, n1, n2, n3, fx, wx, p1, ht, allW, flatEls, KS, getS, getO, gS, zipN, dropW, takeW, wds, stvs, sea, seaL, refs, refsL, refsEls, refsO, isPureEls, isPures, isPure, noExt, noExts, noExtEls, cellsL, ren, renL, renEls, keepO, keepS, keysO, refsS, refsOB, cntN, headC, setS, boxO, row, putW, putB, putB1, eNl, newOs, frz, renO, noExtO, zps, zp, two32, w64, -getElem?_pos]
    exact k0
  · have p3 : ¬ (a.length + b.length ≤ a.length) := by
      have := List.length_pos_iff.2 hb
      omega
    simp only [sl20, ob20, box, rowv, Nat.add_assoc] at k1
    simp -implicitDefEqProofs (maxSteps := 1000000) (disch := first | omega | rfl) [m89, hz, h17, n1, n2, fx, wx, fy, wy, p1, p2, p3, hb, ht, KS, getS, getO, gS, zipN, dropW, takeW, wds, stvs, sea, seaL, refs, refsL, refsEls, refsO, isPureEls, isPures, isPure, noExt, noExts, noExtEls, cellsL, ren, renL, renEls, keepO, keepS, keysO, refsS, refsOB, cntN, headC, setS, boxO, row, putW, putB, putB1, eNl, newOs, frz, renO, noExtO, zps, zp, two32, w64, -getElem?_pos]
    exact k1
set_option maxHeartbeats 4000000 in
theorem L20z (M d : Nat) (ns xs ys : List Int) (L : Int) (h : mayB xs.length L = false ∨ (mayB xs.length L = true ∧ ¬ (ys.length : Int) ≤ 1048576 - L)) :
    sem tab (M + 1000) (d + 4) 89 [hashV ns false xs L, .l false (byL ys)] [] = some (hashV zero8 true [] 0, []) := by
  rw [sem_succ tab (M + 1000) (d + 3) 89 m89 rfl]
  have h17 := L17 (M + 1000) (d + 2) ns xs L
  have hy := byL_len ys
  have hz : wL zero8 = [.i .u32 0, .i .u32 0, .i .u32 0, .i .u32 0, .i .u32 0, .i .u32 0, .i .u32 0, .i .u32 0] := rfl
  have hb : byL [] = [] := rfl
  rcases h with hm | ⟨hm, hL⟩
  · rw [hm] at h17
    simp only [hashV_wL, hz, hb] at h17 ⊢
    generalize byL xs = a at *
    generalize byL ys = b at *
    generalize wL ns = r at *
    simp -implicitDefEqProofs (maxSteps := 1000000) (disch := first | omega | rfl) [m89, h17, KS, getS, getO, gS, zipN, dropW, takeW, wds, stvs, sea, seaL, refs, refsL, refsEls, refsO, isPureEls, isPures, isPure, noExt, noExts, noExtEls, cellsL, ren, renL, renEls, keepO, keepS, keysO, refsS, refsOB, cntN, headC, setS, boxO, row, putW, putB, putB1, eNl, newOs, frz, renO, noExtO, zps, zp, two32, w64, -getElem?_pos]
  · rw [hm] at h17
    have hL0 : 0 ≤ L ∧ L ≤ 1048576 := by simp [mayB] at hm; exact ⟨hm.1, hm.2.1⟩
    simp only [hashV_wL, hz, hb] at h17 ⊢
    rw [← hy] at hL
    generalize byL xs = a at *
    generalize byL ys = b at *
    generalize wL ns = r at *
    have n1 : (b.length : Int) > 1048576 - L := by omega
    have n2 : 1048576 - L < (b.length : Int) := by omega
    simp -implicitDefEqProofs (maxSteps := 1000000) (disch := first | omega | rfl) [m89, h17, n1, n2, KS, getS, getO, gS, zipN, dropW, takeW, wds, stvs, sea, seaL, refs, refsL, refsEls, refsO, isPureEls, isPures, isPure, noExt, noExts, noExtEls, cellsL, ren, renL, renEls, keepO, keepS, keysO, refsS, refsOB, cntN, headC, setS, boxO, row, putW, putB, putB1, eNl, newOs, frz, renO, noExtO, zps, zp, two32, w64, -getElem?_pos]
end
/-! ## PureRh -/
section
def sl25 (n : Nat) : SL := [(1, .p 72 0 0 0 none), (2, .p 80 0 0 0 none), (4, .sl 103 0 0 n)]
def ob25 (hc z : List PV) (t : List (List PV)) : OB := [(103, row t 1 true), (72, box hc 10), (80, box [.blob 32 z] 32)]
def sl25r (i n : Nat) : SL := [(2, .p 80 0 0 0 none), (4, .sl 103 1 i n), (6, .p 112 0 0 0 none)]
def ob25r (r z : List PV) (t : List (List PV)) : OB := [(80, box [.blob 32 z] 32), (112, box [.blob 8 r] 8), (103, rowv t 1)]
def sl25a (k : Int) : SL := [(2, .p 80 0 0 0 none), (6, .p 112 0 0 0 none), (7, .p 120 0 0 0 none), (8, .i .i64 k)]
def ob25a (r z o : List PV) : OB := [(80, box [.blob 32 z] 32), (112, box [.blob 8 r] 8), (120, box [.blob 32 o] 32)]
set_option maxHeartbeats 4000000 in
theorem step25c (N d : Nat) (g : SL → OB → Option R) (r z : List PV) (b t : List (List PV)) (L : Int) (h : ((t.length : Int).tmod 64) ≠ 56) (hl : t.length ≤ 4294967295) :
    m88b2 (sem tab N d) N [] g (sl25 t.length) (ob25 [.blob 8 r, .l false b, .i .i64 L] z t) = g (sl25 (t.length + 1)) (ob25 [.blob 8 r, .l false b, .i .i64 L] z (t ++ [[.i .u8 0]])) := by
  have h1 : ((t.length : Int).tmod 64 == 56) = false := by simpa using h
  have h4 : ((t.length : Int).tmod 64 != 56) = true := by simpa using h
  have h3 : ¬ (t.length + 1 ≤ t.length) := by omega
  have h2 : t.length + 1 ≤ 4294967296 := by omega
  have ht : List.take t.length t = t := List.take_length
  simp -implicitDefEqProofs (maxSteps := 1000000) (disch := first | omega | rfl) [m88b2, sl25, ob25, box, h, h1, h2, h3, h4, ht, KS, getS, getO, gS, zipN, dropW, takeW, wds, stvs, sea, seaL, refs, refsL, refsEls, refsO, isPureEls, isPures, isPure, noExt, noExts, noExtEls, cellsL, ren, renL, renEls, keepO, keepS, keysO, refsS, refsOB, cntN, headC, setS, boxO, row, putW, putB, putB1, eNl, newOs, frz, renO, noExtO, zps, zp, two32, w64, -getElem?_pos]
def lenR (L : Int) : List Int := [0, 0, 0, 0, IntKind.u8.wrap ((8 * L).tdiv 16777216), IntKind.u8.wrap (((8 * L).tdiv 65536).tmod 256), IntKind.u8.wrap (((8 * L).tdiv 256).tmod 256), IntKind.u8.wrap ((8 * L).tmod 256)]
set_option maxHeartbeats 4000000 in
theorem mid25c (N d : Nat) (g : SL → OB → Option R) (r z : List PV) (b t : List (List PV)) (L : Int) (hL : 0 ≤ L ∧ L ≤ 1048576) (h : ((t.length : Int).tmod 64) = 56) (hl : t.length ≤ 4294967280) :
    m88b2 (sem tab N d) N [] g (sl25 t.length) (ob25 [.blob 8 r, .l false b, .i .i64 L] z t) = loopC (m88b1 (sem tab N d) N []) N (sl25r 0 (t.length + 8)) (ob25r r z (t ++ byL (lenR L))) := by
  have h4 : ((t.length : Int).tmod 64 != 56) = false := by simpa using h
  have h2 : t.length + 8 ≤ 4294967296 := by omega
  have h3 : ¬ (t.length + 8 ≤ t.length) := by omega
  have ht : List.take t.length t = t := List.take_length
  have w1 : IntKind.i64.wrap (8 * L) = 8 * L := w64 (by omega) (by omega)
  have w2 : IntKind.i64.wrap ((8 * L).tdiv 16777216) = (8 * L).tdiv 16777216 := by rw [Int.tdiv_eq_ediv_of_nonneg (by omega)]; exact w64 (by omega) (by omega)
  have w3 : IntKind.i64.wrap ((8 * L).tdiv 65536) = (8 * L).tdiv 65536 := by rw [Int.tdiv_eq_ediv_of_nonneg (by omega)]; exact w64 (by omega) (by omega)
  have w4 : IntKind.i64.wrap ((8 * L).tdiv 256) = (8 * L).tdiv 256 := by rw [Int.tdiv_eq_ediv_of_nonneg (by omega)]; exact w64 (by omega) (by omega)
  simp -implicitDefEqProofs (maxSteps := 1000000) (disch := first | omega | rfl) [m88b2, sl25, ob25, sl25r, ob25r, rowv, lenR, byL, box, h, h2, h3, h4, ht, w1, w2, w3, w4, KS, getS, getO, gS, zipN, dropW, takeW, wds, stvs, sea, seaL, refs, refsL, refsEls, refsO, isPureEls, isPures, isPure, noExt, noExts, noExtEls, cellsL, ren, renL, renEls, keepO, keepS, keysO, refsS, refsOB, cntN, headC, setS, boxO, row, putW, putB, putB1, eNl, newOs, frz, renO, noExtO, zps, zp, two32, w64, -getElem?_pos]
set_option maxHeartbeats 4000000 in
theorem step25r (M d : Nat) (g : SL → OB → Option R) (rs T : List Int) (z : List PV) (i n : Nat) (hr : rs.length = 8) (hn : 64 ≤ n) (hi : i + n = T.length) (hb : ∀ n ∈ T, 0 ≤ n ∧ n ≤ 255) :
    m88b1 (sem tab (M + 65) (d + 3)) (M + 65) [] g (sl25r i n) (ob25r (wL rs) z (byL T)) = g (sl25r (i + 64) (n - 64)) (ob25r (wL (rnd rs ((T.drop i).take 64))) z (byL T)) := by
  have h40 := L40 M d rs ((T.drop i).take 64) hr (by simp; omega) (fun x hx => hb x (List.mem_of_mem_drop (List.mem_of_mem_take hx)))
  have hl := byL_len T
  have e : List.take 64 (List.drop i (byL T)) = byL ((T.drop i).take 64) := by rw [byL_drop, byL_take]
  rw [← e] at h40
  rw [← hl] at hi
  generalize byL T = t at *
  generalize wL (rnd rs ((T.drop i).take 64)) = r2 at *
  generalize wL rs = r at *
  have c0 : 0 < n := by omega
  have c1 : 64 ≤ (n : Int) := by omega
  have c2 : i + 64 ≤ t.length := by omega
  have c3 : (0 : Int) < n := by omega
  have c4 : i + n ≤ t.length := by omega
  have c5 : (i : Int) + 64 ≤ t.length := by omega
  have c6 : (i : Int) + n ≤ t.length := by omega
  have c7 : (n : Int) > 0 := by omega
  simp -implicitDefEqProofs (maxSteps := 1000000) (disch := first | omega | rfl) [m88b1, sl25r, ob25r, box, rowv, hn, c0, c1, c2, c3, c4, c5, c6, c7, h40, KS, getS, getO, gS, zipN, dropW, takeW, wds, stvs, sea, seaL, refs, refsL, refsEls, refsO, isPureEls, isPures, isPure, noExt, noExts, noExtEls, cellsL, ren, renL, renEls, keepO, keepS, keysO, refsS, refsOB, cntN, headC, setS, boxO, row, putW, putB, putB1, eNl, newOs, frz, renO, noExtO, zps, zp, two32, w64, -getElem?_pos]
set_option maxHeartbeats 4000000 in
theorem mid25r (N d : Nat) (g : SL → OB → Option R) (r z : List PV) (t : List (List PV)) (i : Nat) :
    m88b1 (sem tab N d) N [] g (sl25r i 0) (ob25r r z t) = loopC (m88b0 (sem tab N d) N []) N (sl25a 0) (ob25a r z (List.replicate 32 (.i .u8 0))) := by
  generalize hz : List.replicate 32 (PV.i IntKind.u8 0) = zz at *
  simp -implicitDefEqProofs (maxSteps := 1000000) (disch := first | omega | rfl) [m88b1, sl25r, ob25r, sl25a, ob25a, hz, box, rowv, KS, getS, getO, gS, zipN, dropW, takeW, wds, stvs, sea, seaL, refs, refsL, refsEls, refsO, isPureEls, isPures, isPure, noExt, noExts, noExtEls, cellsL, ren, renL, renEls, keepO, keepS, keysO, refsS, refsOB, cntN, headC, setS, boxO, row, putW, putB, putB1, eNl, newOs, frz, renO, noExtO, zps, zp, two32, w64, -getElem?_pos]
theorem loop25r (T : List Int) (z : List PV) (hb : ∀ n ∈ T, 0 ≤ n ∧ n ≤ 255) : ∀ (j i : Nat) (rs : List Int) (M d M' : Nat), i + 64 * j = T.length → rs.length = 8 →
    loopC (m88b1 (sem tab (M + 65) (d + 3)) (M + 65) []) (M' + 1 + j) (sl25r i (64 * j)) (ob25r (wL rs) z (byL T)) = loopC (m88b0 (sem tab (M + 65) (d + 3)) (M + 65) []) (M + 65) (sl25a 0) (ob25a (wL (rounds rs (T.drop i)).1) z (List.replicate 32 (.i .u8 0))) := by
  intro j
  induction j with
  | zero =>
    intro i rs M d M' hi hr
    rw [Nat.add_zero, k_loop, rounds_short (by simp; omega), Nat.mul_zero, mid25r]
  | succ j ih =>
    intro i rs M d M' hi hr
    rw [show M' + 1 + (j + 1) = (M' + 1 + j) + 1 by omega, k_loop, step25r M d _ rs T z i (64 * (j + 1)) hr (by omega) (by omega) hb, rounds_long (by simp; omega), List.drop_drop, show 64 * (j + 1) - 64 = 64 * j by omega]
    exact ih (i + 64) _ M d M' (by omega) (rnd_len _ _ hr)
end
/-! ## PureRi -/
section
def lenV (L : Int) : Int := IntKind.u64.wrap (IntKind.u64.wrap L * 8)
def lenB (v : Int) (k : Nat) : Int := IntKind.u8.wrap (v.fdiv (2 ^ min (56 - 8 * (k : Int)).toNat IntKind.u64.bits))
set_option maxHeartbeats 4000000 in
theorem mid24e (r z : List PV) (b t : List (List PV)) (L : Int) (h : ((t.length : Int).tmod 64) = 56) :
    ∀ (N d : Nat) (g : SL → OB → Option R), m63b2 (sem tab N d) N [] g (sl24 t.length) (ob24 [.blob 8 r, .l false b, .i .i64 L] z t) = loopC (m63b1 (sem tab N d) N []) N (sl24b t.length (lenV L) 0) (ob24 [.blob 8 r, .l false b, .i .i64 L] z t) := by
  have ht : List.take t.length t = t := List.take_length
  intro N d g
  simp -implicitDefEqProofs (maxSteps := 1000000) (disch := first | omega | rfl) [m63b2, sl24, ob24, sl24b, box, h, ht, KS, getS, getO, gS, zipN, dropW, takeW, wds, stvs, sea, seaL, refs, refsL, refsEls, refsO, isPureEls, isPures, isPure, noExt, noExts, noExtEls, cellsL, ren, renL, renEls, keepO, keepS, keysO, refsS, refsOB, cntN, headC, setS, boxO, row, putW, putB, putB1, eNl, newOs, frz, renO, noExtO, zps, zp, two32, w64, -getElem?_pos]
  rfl
set_option maxHeartbeats 4000000 in
theorem step24e (r z : List PV) (b t : List (List PV)) (L v : Int) (k : Nat) (hk : k < 8) (hl : t.length ≤ 4294967295) :
    ∀ (N d : Nat) (g : SL → OB → Option R), m63b1 (sem tab N d) N [] g (sl24b t.length v k) (ob24 [.blob 8 r, .l false b, .i .i64 L] z t) = g (sl24b (t.length + 1) v (k + 1 : Nat)) (ob24 [.blob 8 r, .l false b, .i .i64 L] z (t ++ [[.i .u8 (lenB v k)]])) := by
  have c1 : (k : Int) < 8 := by omega
  have c2 : ¬ (56 - 8 * (k : Int) < 0) := by omega
  have h2 : t.length + 1 ≤ 4294967296 := by omega
  have h3 : ¬ (t.length + 1 ≤ t.length) := by omega
  have ht : List.take t.length t = t := List.take_length
  have w1 : IntKind.i64.wrap (56 - 8 * (k : Int)) = 56 - 8 * (k : Int) := w64 (by omega) (by omega)
  intro N d g
  simp -implicitDefEqProofs (maxSteps := 1000000) (disch := first | omega | rfl) [m63b1, sl24b, ob24, box, hk, c1, c2, w1, h2, h3, ht, KS, getS, getO, gS, zipN, dropW, takeW, wds, stvs, sea, seaL, refs, refsL, refsEls, refsO, isPureEls, isPures, isPure, noExt, noExts, noExtEls, cellsL, ren, renL, renEls, keepO, keepS, keysO, refsS, refsOB, cntN, headC, setS, boxO, row, putW, putB, putB1, eNl, newOs, frz, renO, noExtO, zps, zp, two32, w64, -getElem?_pos]
  rfl
theorem lenB_eq (L : Int) (hL : 0 ≤ L ∧ L ≤ 1048576) : lenR L = [lenB (lenV L) 0, lenB (lenV L) 1, lenB (lenV L) 2, lenB (lenV L) 3, lenB (lenV L) 4, lenB (lenV L) 5, lenB (lenV L) 6, lenB (lenV L) 7] := by
  have hv : lenV L = 8 * L := by
    unfold lenV
    simp only [IntKind.wrap_u64]; omega
  have e : ∀ k : Nat, k < 8 → lenB (8 * L) k = (8 * L) / (2 ^ (56 - 8 * k)) % 256 := by
    intro k hk
    unfold lenB
    rw [Int.fdiv_eq_ediv_of_nonneg _ (Int.le_of_lt (Int.pow_pos (by omega))), IntKind.wrap_u8, show (56 - 8 * (k : Int)).toNat = 56 - 8 * k by omega, show min (56 - 8 * k) IntKind.u64.bits = 56 - 8 * k from Nat.min_eq_left (by show 56 - 8 * k ≤ 64; omega)]
  rw [hv, e 0 (by omega), e 1 (by omega), e 2 (by omega), e 3 (by omega), e 4 (by omega), e 5 (by omega), e 6 (by omega), e 7 (by omega)]
  simp only [lenR, Int.tdiv_eq_ediv_of_nonneg (show (0 : Int) ≤ 8 * L by omega), IntKind.wrap_u8]
  rw [Int.tmod_eq_emod_of_nonneg (by omega), Int.tmod_eq_emod_of_nonneg (by omega), Int.tmod_eq_emod_of_nonneg (by omega)]
  simp only [List.cons.injEq, and_true]
  refine ⟨?_, ?_, ?_, ?_, ?_, ?_, ?_, ?_⟩ <;> omega
set_option maxHeartbeats 4000000 in
/-- Eight bytes of length behind; then all is rounded. -/
theorem run24e (M d M' : Nat) (rs ts : List Int) (b : List (List PV)) (L : Int) (z : List PV) (hL : 0 ≤ L ∧ L ≤ 1048576) (hr : rs.length = 8) (hl : ts.length ≤ 57500) :
    loopC (m63b1 (sem tab (M + 1000) (d + 5)) (M + 1000) []) (M' + 9) (sl24b ts.length (lenV L) 0) (ob24 [.blob 8 (wL rs), .l false b, .i .i64 L] z (byL ts)) = loopC (m63b0 (sem tab (M + 1000) (d + 5)) (M + 1000) []) (M + 1000) (sl24a (wL (rounds rs (ts ++ lenR L)).1) 0) (ob24a z (List.replicate 32 (.i .u8 0))) := by
  have st : ∀ (k : Nat) (us : List Int) (g : SL → OB → Option R), k < 8 → us.length ≤ 57600 → m63b1 (sem tab (M + 1000) (d + 5)) (M + 1000) [] g (sl24b us.length (lenV L) (k : Nat)) (ob24 [.blob 8 (wL rs), .l false b, .i .i64 L] z (byL us)) = g (sl24b (us ++ [lenB (lenV L) k]).length (lenV L) (k + 1 : Nat)) (ob24 [.blob 8 (wL rs), .l false b, .i .i64 L] z (byL (us ++ [lenB (lenV L) k]))) := by
    intro k us g hk hu
    have h := step24e (wL rs) z b (byL us) L (lenV L) k hk (by rw [byL_len]; omega) (M + 1000) (d + 5) g
    rw [byL_len, byL_app1] at h
    rw [List.length_append]; exact h
  have e : (0 : Int) = ((0 : Nat) : Int) := rfl
  rw [e, show M' + 9 = (M' + 8) + 1 from rfl, k_loop, st 0 _ _ (by omega) (by omega)]
  rw [k_loop, st (0 + 1) _ _ (by omega) (by simp; omega)]
  rw [k_loop, st (0 + 1 + 1) _ _ (by omega) (by simp; omega)]
  rw [k_loop, st (0 + 1 + 1 + 1) _ _ (by omega) (by simp; omega)]
  rw [k_loop, st (0 + 1 + 1 + 1 + 1) _ _ (by omega) (by simp; omega)]
  rw [k_loop, st (0 + 1 + 1 + 1 + 1 + 1) _ _ (by omega) (by simp; omega)]
  rw [k_loop, st (0 + 1 + 1 + 1 + 1 + 1 + 1) _ _ (by omega) (by simp; omega)]
  rw [k_loop, st (0 + 1 + 1 + 1 + 1 + 1 + 1 + 1) _ _ (by omega) (by simp; omega)]
  rw [k_loop]
  have h := mid24b M d (loopC (m63b1 (sem tab (M + 1000) (d + 5)) (M + 1000) []) M') rs (ts ++ lenR L) b L (lenV L) z hr (by rw [List.length_append, show (lenR L).length = 8 from rfl]; omega)
  rw [lenB_eq L hL] at h ⊢
  simp only [List.append_assoc, List.cons_append, List.nil_append, Nat.zero_add, Nat.reduceAdd] at h ⊢
  exact h
end
/-! ## PureRj -/
section
def oB (x : Int) (n : Nat) : Int := IntKind.u8.wrap (x.fdiv (2 ^ min n IntKind.u32.bits))
def oR0 (x : Int) : Int := IntKind.u8.wrap (x.tdiv 16777216)
def oR1 (x : Int) : Int := IntKind.u8.wrap ((x.tdiv 65536).tmod 256)
def oR2 (x : Int) : Int := IntKind.u8.wrap ((x.tdiv 256).tmod 256)
def oR3 (x : Int) : Int := IntKind.u8.wrap (x.tmod 256)
theorem fdiv_tdiv (x : Int) (h : 0 ≤ x) (n : Nat) : x.fdiv (2 ^ n) = x.tdiv (2 ^ n) := by
  rw [Int.fdiv_eq_ediv_of_nonneg _ (Int.le_of_lt (Int.pow_pos (by omega))), Int.tdiv_eq_ediv_of_nonneg h]
theorem oR_eq (x : Int) (h : 0 ≤ x ∧ x < 4294967296) : oR0 x = oB x 24 ∧ oR1 x = oB x 16 ∧ oR2 x = oB x 8 ∧ oR3 x = IntKind.u8.wrap x := by
  have e : ∀ n : Nat, n ≤ 32 → oB x n = x / 2 ^ n % 256 := by
    intro n hn
    unfold oB
    rw [show min n IntKind.u32.bits = n from Nat.min_eq_left hn, Int.fdiv_eq_ediv_of_nonneg _ (Int.le_of_lt (Int.pow_pos (by omega))), IntKind.wrap_u8]
  rw [e 24 (by omega), e 16 (by omega), e 8 (by omega)]
  simp only [oR0, oR1, oR2, oR3, Int.tdiv_eq_ediv_of_nonneg h.1, IntKind.wrap_u8]
  rw [Int.tmod_eq_emod_of_nonneg (by omega), Int.tmod_eq_emod_of_nonneg (by omega), Int.tmod_eq_emod_of_nonneg (by omega)]
  refine ⟨?_, ?_, ?_, ?_⟩ <;> omega
set_option maxHeartbeats 4000000 in
theorem step24o (r z o : List PV) (k : Nat) (x : Int) (hk : k < 8) (hx : r[k]? = some (.i .u32 x)) (ho : o.length = 32) :
    ∀ (N d : Nat) (g : SL → OB → Option R), m63b0 (sem tab N d) N [] g (sl24a r k) (ob24a z o) = g (sl24a r (k + 1 : Nat)) (ob24a z ((((o.set (4 * k) (.i .u8 (oB x 24))).set (4 * k + 1) (.i .u8 (oB x 16))).set (4 * k + 2) (.i .u8 (oB x 8))).set (4 * k + 3) (.i .u8 (IntKind.u8.wrap x)))) := by
  have c1 : (k : Int) < 8 := by omega
  have c3 : (0 : Int) ≤ k := by omega
  have c4 : (0 : Int) ≤ 4 * (k : Int) := by omega
  have c5 : (0 : Int) ≤ 4 * (k : Int) + 1 := by omega
  have c6 : (0 : Int) ≤ 4 * (k : Int) + 2 := by omega
  have c7 : (0 : Int) ≤ 4 * (k : Int) + 3 := by omega
  have d4 : 4 * (k : Int) < 32 := by omega
  have d5 : 4 * (k : Int) + 1 < 32 := by omega
  have d6 : 4 * (k : Int) + 2 < 32 := by omega
  have d7 : 4 * (k : Int) + 3 < 32 := by omega
  have t4 : (4 * (k : Int)).toNat = 4 * k := by omega
  have t5 : (4 * (k : Int) + 1).toNat = 4 * k + 1 := by omega
  have t6 : (4 * (k : Int) + 2).toNat = 4 * k + 2 := by omega
  have t7 : (4 * (k : Int) + 3).toNat = 4 * k + 3 := by omega
  have b4 : 4 * k < 32 := by omega
  have b5 : 4 * k + 1 < 32 := by omega
  have b6 : 4 * k + 2 < 32 := by omega
  have b7 : 4 * k + 3 < 32 := by omega
  intro N d g
  simp -implicitDefEqProofs (maxSteps := 1000000) (disch := first | omega | rfl) [m63b0, sl24a, ob24a, box, xV, hk, hx, ho, c1, c3, c4, c5, c6, c7, d4, d5, d6, d7, t4, t5, t6, t7, b4, b5, b6, b7, KS, getS, getO, gS, zipN, dropW, takeW, wds, stvs, sea, seaL, refs, refsL, refsEls, refsO, isPureEls, isPures, isPure, noExt, noExts, noExtEls, cellsL, ren, renL, renEls, keepO, keepS, keysO, refsS, refsOB, cntN, headC, setS, boxO, row, putW, putB, putB1, eNl, newOs, frz, renO, noExtO, zps, zp, two32, w64, -getElem?_pos]
  rfl
set_option maxHeartbeats 4000000 in
theorem step25o (r z o : List PV) (k : Nat) (x : Int) (hk : k < 8) (hx : r[k]? = some (.i .u32 x)) (ho : o.length = 32) (hr : 0 ≤ x ∧ x < 4294967296) :
    ∀ (N d : Nat) (g : SL → OB → Option R), m88b0 (sem tab N d) N [] g (sl25a k) (ob25a r z o) = g (sl25a (k + 1 : Nat)) (ob25a r z ((((o.set (4 * k) (.i .u8 (oR0 x))).set (4 * k + 1) (.i .u8 (oR1 x))).set (4 * k + 2) (.i .u8 (oR2 x))).set (4 * k + 3) (.i .u8 (oR3 x)))) := by
  have c1 : (k : Int) < 8 := by omega
  have c3 : (0 : Int) ≤ k := by omega
  have c4 : (0 : Int) ≤ 4 * (k : Int) := by omega
  have c5 : (0 : Int) ≤ 4 * (k : Int) + 1 := by omega
  have c6 : (0 : Int) ≤ 4 * (k : Int) + 2 := by omega
  have c7 : (0 : Int) ≤ 4 * (k : Int) + 3 := by omega
  have d4 : 4 * (k : Int) < 32 := by omega
  have d5 : 4 * (k : Int) + 1 < 32 := by omega
  have d6 : 4 * (k : Int) + 2 < 32 := by omega
  have d7 : 4 * (k : Int) + 3 < 32 := by omega
  have t4 : (4 * (k : Int)).toNat = 4 * k := by omega
  have t5 : (4 * (k : Int) + 1).toNat = 4 * k + 1 := by omega
  have t6 : (4 * (k : Int) + 2).toNat = 4 * k + 2 := by omega
  have t7 : (4 * (k : Int) + 3).toNat = 4 * k + 3 := by omega
  have b4 : 4 * k < 32 := by omega
  have b5 : 4 * k + 1 < 32 := by omega
  have b6 : 4 * k + 2 < 32 := by omega
  have b7 : 4 * k + 3 < 32 := by omega
  have w2 : IntKind.u32.wrap (x.tdiv 16777216) = x.tdiv 16777216 := by rw [Int.tdiv_eq_ediv_of_nonneg hr.1]; exact w32 (by omega) (by omega)
  have w3 : IntKind.u32.wrap (x.tdiv 65536) = x.tdiv 65536 := by rw [Int.tdiv_eq_ediv_of_nonneg hr.1]; exact w32 (by omega) (by omega)
  have w4 : IntKind.u32.wrap (x.tdiv 256) = x.tdiv 256 := by rw [Int.tdiv_eq_ediv_of_nonneg hr.1]; exact w32 (by omega) (by omega)
  intro N d g
  simp -implicitDefEqProofs (maxSteps := 1000000) (disch := first | omega | rfl) [m88b0, sl25a, ob25a, box, oR0, oR1, oR2, oR3, hk, hx, ho, c1, c3, c4, c5, c6, c7, d4, d5, d6, d7, t4, t5, t6, t7, b4, b5, b6, b7, w2, w3, w4, KS, getS, getO, gS, zipN, dropW, takeW, wds, stvs, sea, seaL, refs, refsL, refsEls, refsO, isPureEls, isPures, isPure, noExt, noExts, noExtEls, cellsL, ren, renL, renEls, keepO, keepS, keysO, refsS, refsOB, cntN, headC, setS, boxO, row, putW, putB, putB1, eNl, newOs, frz, renO, noExtO, zps, zp, two32, w64, -getElem?_pos]
set_option maxHeartbeats 4000000 in
theorem end25a (N d : Nat) (g : SL → OB → Option R) (r z o : List PV) : m88b0 (sem tab N d) N [] g (sl25a 8) (ob25a r z o) = some (.agg [.blob 32 o], []) := by
  simp -implicitDefEqProofs (maxSteps := 1000000) (disch := first | omega | rfl) [m88b0, sl25a, ob25a, box, KS, getS, getO, gS, zipN, dropW, takeW, wds, stvs, sea, seaL, refs, refsL, refsEls, refsO, isPureEls, isPures, isPure, noExt, noExts, noExtEls, cellsL, ren, renL, renEls, keepO, keepS, keysO, refsS, refsOB, cntN, headC, setS, boxO, row, putW, putB, putB1, eNl, newOs, frz, renO, noExtO, zps, zp, two32, w64, -getElem?_pos]
theorem loopJ24 (rs : List Int) (hr : rs.length = 8) (hb : ∀ y ∈ rs, 0 ≤ y ∧ y < 4294967296) (z z' : List PV) : ∀ (n k : Nat) (o : List Int), k + n = 8 → o.length = 32 → (∀ y ∈ o, 0 ≤ y ∧ y ≤ 255) → ∃ o' : List Int, o'.length = 32 ∧ (∀ y ∈ o', 0 ≤ y ∧ y ≤ 255) ∧
    (∀ N d M : Nat, loopC (m63b0 (sem tab N d) N []) (M + 1 + n) (sl24a (wL rs) k) (ob24a z (uL o)) = some (.agg [.blob 32 (uL o')], [])) ∧
    ∀ N d M : Nat, loopC (m88b0 (sem tab N d) N []) (M + 1 + n) (sl25a k) (ob25a (wL rs) z' (uL o)) = some (.agg [.blob 32 (uL o')], []) := by
  intro n
  induction n with
  | zero =>
    intro k o hk ho hor
    have : k = 8 := by omega
    subst this
    exact ⟨o, ho, hor, fun N d M => by rw [Nat.add_zero, k_loop]; exact end24a N d _ _ _ _, fun N d M => by rw [Nat.add_zero, k_loop]; exact end25a N d _ _ _ _⟩
  | succ n ih =>
    intro k o hk ho hor
    have hk8 : k < rs.length := by omega
    have hx : (wL rs)[k]? = some (.i .u32 rs[k]) := by rw [wL_get, List.getElem?_eq_getElem hk8]; rfl
    have hrg := hb _ (List.getElem_mem hk8)
    have h1 := step24o (wL rs) z (uL o) k rs[k] (by omega) hx (by rw [uL_len]; exact ho)
    have h2 := step25o (wL rs) z' (uL o) k rs[k] (by omega) hx (by rw [uL_len]; exact ho) hrg
    obtain ⟨e0, e1, e2, e3⟩ := oR_eq rs[k] hrg
    rw [e0, e1, e2, e3] at h2
    rw [uL_set, uL_set, uL_set, uL_set] at h1 h2
    obtain ⟨o', i1, i0, i2, i3⟩ := ih (k + 1) ((((o.set (4 * k) (oB rs[k] 24)).set (4 * k + 1) (oB rs[k] 16)).set (4 * k + 2) (oB rs[k] 8)).set (4 * k + 3) (IntKind.u8.wrap rs[k])) (by omega) (by simpa using ho) (fun y hy => by
      have w8r : ∀ x : Int, 0 ≤ IntKind.u8.wrap x ∧ IntKind.u8.wrap x ≤ 255 := fun x => by rw [IntKind.wrap_u8]; omega
      rcases List.mem_or_eq_of_mem_set hy with hy | rfl
      · rcases List.mem_or_eq_of_mem_set hy with hy | rfl
        · rcases List.mem_or_eq_of_mem_set hy with hy | rfl
          · rcases List.mem_or_eq_of_mem_set hy with hy | rfl
            · exact hor y hy
            · exact w8r _
          · exact w8r _
        · exact w8r _
      · exact w8r _)
    refine ⟨o', i1, i0, fun N d M => ?_, fun N d M => ?_⟩
    · rw [show M + 1 + (n + 1) = (M + 1 + n) + 1 by omega, k_loop, h1]
      exact i2 N d M
    · rw [show M + 1 + (n + 1) = (M + 1 + n) + 1 by omega, k_loop, h2]
      exact i3 N d M
end
/-! ## PureRk -/
section
theorem z24c (rs : List Int) (b : List (List PV)) (L : Int) (z : List PV) : ∀ (n : Nat) (ts : List Int), (ts.length + n) % 64 = 56 → n < 64 → ts.length + n ≤ 57500 → ∀ M d M' : Nat, loopC (m63b2 (sem tab (M + 1000) (d + 5)) (M + 1000) []) (M' + 1 + n) (sl24 ts.length) (ob24 [.blob 8 (wL rs), .l false b, .i .i64 L] z (byL ts)) = loopC (m63b1 (sem tab (M + 1000) (d + 5)) (M + 1000) []) (M + 1000) (sl24b (ts ++ List.replicate n 0).length (lenV L) 0) (ob24 [.blob 8 (wL rs), .l false b, .i .i64 L] z (byL (ts ++ List.replicate n 0))) := by
  intro n
  induction n with
  | zero =>
    intro ts h _ hl M d M'
    have htm : ((ts.length : Int).tmod 64) = 56 := by
      rw [Int.tmod_eq_emod_of_nonneg (by omega)]; omega
    have hv := mid24e (wL rs) z b (byL ts) L (by rw [byL_len]; exact htm) (M + 1000) (d + 5) (loopC (m63b2 (sem tab (M + 1000) (d + 5)) (M + 1000) []) M')
    rw [byL_len] at hv
    rw [Nat.add_zero, k_loop, hv, List.replicate_zero, List.append_nil]
  | succ n ih =>
    intro ts h hn hl M d M'
    have htm : ((ts.length : Int).tmod 64) ≠ 56 := by
      rw [Int.tmod_eq_emod_of_nonneg (by omega)]; omega
    have hy := step24c (M + 1000) (d + 5) (loopC (m63b2 (sem tab (M + 1000) (d + 5)) (M + 1000) []) (M' + 1 + n)) (wL rs) z z b (byL ts) L (by rw [byL_len]; exact htm) (by rw [byL_len]; omega)
    rw [byL_len] at hy
    rw [show M' + 1 + (n + 1) = (M' + 1 + n) + 1 by omega, k_loop, hy, byL_app1]
    have := ih (ts ++ [0]) (by simp only [List.length_append, List.length_singleton]; omega) (by omega) (by simp only [List.length_append, List.length_singleton]; omega) M d M'
    rw [List.append_assoc, show [(0 : Int)] ++ List.replicate n 0 = List.replicate (n + 1) 0 from rfl] at this
    rw [show (ts ++ [(0 : Int)]).length = ts.length + 1 by simp] at this
    exact this
theorem z25c (rs : List Int) (b : List (List PV)) (L : Int) (z : List PV) (hL : 0 ≤ L ∧ L ≤ 1048576) : ∀ (n : Nat) (ts : List Int), (ts.length + n) % 64 = 56 → n < 64 → ts.length + n ≤ 57500 → ∀ N d M' : Nat, loopC (m88b2 (sem tab N d) N []) (M' + 1 + n) (sl25 ts.length) (ob25 [.blob 8 (wL rs), .l false b, .i .i64 L] z (byL ts)) = loopC (m88b1 (sem tab N d) N []) N (sl25r 0 ((ts ++ List.replicate n 0).length + 8)) (ob25r (wL rs) z (byL (ts ++ List.replicate n 0 ++ lenR L))) := by
  intro n
  induction n with
  | zero =>
    intro ts h _ hl N d M'
    have htm : ((ts.length : Int).tmod 64) = 56 := by
      rw [Int.tmod_eq_emod_of_nonneg (by omega)]; omega
    have hv := mid25c N d (loopC (m88b2 (sem tab N d) N []) M') (wL rs) z b (byL ts) L hL (by rw [byL_len]; exact htm) (by rw [byL_len]; omega)
    rw [byL_len, byL_app] at hv
    rw [Nat.add_zero, k_loop, hv, List.replicate_zero, List.append_nil]
  | succ n ih =>
    intro ts h hn hl N d M'
    have htm : ((ts.length : Int).tmod 64) ≠ 56 := by
      rw [Int.tmod_eq_emod_of_nonneg (by omega)]; omega
    have hy := step25c N d (loopC (m88b2 (sem tab N d) N []) (M' + 1 + n)) (wL rs) z b (byL ts) L (by rw [byL_len]; exact htm) (by rw [byL_len]; omega)
    rw [byL_len] at hy
    rw [show M' + 1 + (n + 1) = (M' + 1 + n) + 1 by omega, k_loop, hy, byL_app1]
    have := ih (ts ++ [0]) (by simp only [List.length_append, List.length_singleton]; omega) (by omega) (by simp only [List.length_append, List.length_singleton]; omega) N d M'
    rw [List.append_assoc ts, show [(0 : Int)] ++ List.replicate n 0 = List.replicate (n + 1) 0 from rfl] at this
    rw [show (ts ++ [(0 : Int)]).length = ts.length + 1 by simp] at this
    exact this
theorem lenR_range (L : Int) : ∀ n ∈ lenR L, 0 ≤ n ∧ n ≤ 255 := by
  intro n hn
  simp only [lenR, List.mem_cons, List.not_mem_nil, or_false] at hn
  rcases hn with rfl | rfl | rfl | rfl | rfl | rfl | rfl | rfl <;> first | omega | (rw [IntKind.wrap_u8]; omega)
theorem uL_inj : ∀ {a b : List Int}, uL a = uL b → a = b
  | [], [], _ => rfl
  | [], y :: b, h => by simp [uL] at h
  | x :: a, [], h => by simp [uL] at h
  | x :: a, y :: b, h => by
    simp only [uL, List.map_cons, List.cons.injEq, PV.i.injEq, true_and] at h
    rw [h.1, uL_inj h.2]
set_option maxHeartbeats 4000000 in
/-- The sum of a state, here and there. -/
theorem J24 (ns xs : List Int) (L : Int) (hn : ns.length = 8) (hb : ∀ y ∈ ns, 0 ≤ y ∧ y < 4294967296) (hx : ∀ n ∈ xs, 0 ≤ n ∧ n ≤ 255) : ∃ o : List Int, o.length = 32 ∧ (∀ y ∈ o, 0 ≤ y ∧ y ≤ 255) ∧
    (∀ M d : Nat, sem tab (M + 1000) (d + 6) 63 [hashV ns false xs L] [] = some (.agg [.blob 32 (uL o)], [])) ∧
    ∀ M d : Nat, sem tab (M + 1000) (d + 4) 88 [hashV ns false xs L] [] = some (.agg [.blob 32 (uL o)], []) := by
  by_cases hm : mayB xs.length L = true
  · obtain ⟨hL0, hL1, hx64⟩ : 0 ≤ L ∧ L ≤ 1048576 ∧ xs.length < 64 := by
      simp [mayB] at hm
      obtain ⟨h0, h1, h2⟩ := hm
      rw [Int.tmod_eq_emod_of_nonneg h0] at h2; exact ⟨h0, h1, by omega⟩
    obtain ⟨k, hk, hp⟩ := pad_of (xs ++ [128]).length
    have hT : ∀ n ∈ xs ++ [128] ++ List.replicate k 0 ++ lenR L, 0 ≤ n ∧ n ≤ 255 := by
      intro n hn
      simp only [List.mem_append, List.mem_singleton, List.mem_replicate] at hn
      rcases hn with ((h | h) | h) | h
      · exact hx n h
      · omega
      · omega
      · exact lenR_range L n h
    have hlen : (xs ++ [128] ++ List.replicate k 0 ++ lenR L).length = xs.length + 1 + k + 8 := by
      simp only [List.length_append, List.length_singleton, List.length_replicate, show (lenR L).length = 8 from rfl]
    rw [List.length_append, List.length_singleton] at hp
    obtain ⟨rl, _⟩ := rounds_len _ ns (xs ++ [128] ++ List.replicate k 0 ++ lenR L) (Nat.le_refl _) hn
    have rr := rounds_range _ ns (xs ++ [128] ++ List.replicate k 0 ++ lenR L) (Nat.le_refl _) hn hb hT
    obtain ⟨o, h1, h0, h2, h3⟩ := loopJ24 _ rl rr (List.replicate 32 (.i .u8 0)) (List.replicate 32 (.i .u8 0)) 8 0 (List.replicate 32 0) rfl (by simp) (fun y hy => by rw [(List.mem_replicate.1 hy).2]; omega)
    refine ⟨o, h1, h0, fun M d => ?_, fun M d => ?_⟩
    · have a1 := z24c ns (byL xs) L (List.replicate 32 (.i .u8 0)) k (xs ++ [128]) (by simp only [List.length_append, List.length_singleton]; omega) hk (by simp only [List.length_append, List.length_singleton]; omega) M d (M + 999 - k)
      rw [show M + 999 - k + 1 + k = (M + 991) + 9 by omega] at a1
      have a2 := run24e M d (M + 991) ns (xs ++ [128] ++ List.replicate k 0) (byL xs) L (List.replicate 32 (.i .u8 0)) ⟨hL0, hL1⟩ hn (by simp only [List.length_append, List.length_singleton, List.length_replicate]; omega)
      rw [show M + 1000 = (M + 991) + 9 by omega] at a1 a2 ⊢
      rw [a2] at a1
      have a3 := h2 ((M + 991) + 9) (d + 5) (M + 991)
      rw [show M + 991 + 1 + 8 = (M + 991) + 9 by omega, ← zero32] at a3
      have h2 := a1.trans a3
      rw [sem_succ tab (M + 991 + 9) (d + 5) 63 m63 rfl]
      have h23 := L23 (M + 991 + 9) (d + 4) ns xs L
      rw [hm] at h23
      have h39 := L39 (M + 991 + 9) (d + 4) xs (by omega)
      have hlx := byL_len xs
      rw [← byL_app1] at h2
      rw [List.length_append, ← hlx] at h2
      rw [← hlx] at h39 hx64
      simp only [hashV_wL] at h23 ⊢
      generalize byL xs = a at *
      generalize wL ns = r at *
      generalize hz : List.replicate 32 (PV.i IntKind.u8 0) = zz at *
      have ht : List.take a.length a = a := List.take_length
      have q1 : a.length + 1 ≤ 4294967296 := by omega
      have q2 : ¬ (a.length + 1 ≤ a.length) := by omega
      simp only [sl24, ob24, box, row, List.length_singleton] at h2
      simp -implicitDefEqProofs (maxSteps := 1000000) (disch := first | omega | rfl) [m63, hz, h23, h39, ht, q1, q2, KS, getS, getO, gS, zipN, dropW, takeW, wds, stvs, sea, seaL, refs, refsL, refsEls, refsO, isPureEls, isPures, isPure, noExt, noExts, noExtEls, cellsL, ren, renL, renEls, keepO, keepS, keysO, refsS, refsOB, cntN, headC, setS, boxO, row, putW, putB, putB1, eNl, newOs, frz, renO, noExtO, zps, zp, two32, w64, -getElem?_pos]
      exact h2
    · have a1 := z25c ns (byL xs) L (List.replicate 32 (.i .u8 0)) ⟨hL0, hL1⟩ k (xs ++ [128]) (by simp only [List.length_append, List.length_singleton]; omega) hk (by simp only [List.length_append, List.length_singleton]; omega) (M + 935 + 65) (d + 3) (M + 999 - k)
      rw [show M + 999 - k + 1 + k = M + 935 + 65 by omega] at a1
      have hj : (xs ++ [128] ++ List.replicate k 0).length + 8 = 64 * ((xs.length + 1 + k + 8) / 64) := by
        simp only [List.length_append, List.length_singleton, List.length_replicate]; omega
      have a2 := loop25r (xs ++ [128] ++ List.replicate k 0 ++ lenR L) (List.replicate 32 (.i .u8 0)) hT ((xs.length + 1 + k + 8) / 64) 0 ns (M + 935) d (M + 999 - (xs.length + 1 + k + 8) / 64) (by rw [hlen]; omega) hn
      rw [show M + 999 - (xs.length + 1 + k + 8) / 64 + 1 + (xs.length + 1 + k + 8) / 64 = M + 935 + 65 by omega, List.drop_zero, ← hj] at a2
      have a3 := h3 (M + 935 + 65) (d + 3) (M + 991)
      rw [show M + 991 + 1 + 8 = M + 935 + 65 by omega, ← zero32] at a3
      have h3 := (a1.trans a2).trans a3
      rw [show M + 1000 = M + 935 + 65 by omega]
      rw [sem_succ tab (M + 935 + 65) (d + 3) 88 m88 rfl]
      have h17 := L17 (M + 935 + 65) (d + 2) ns xs L
      rw [hm] at h17
      have hlx := byL_len xs
      have fx := flat_by xs
      have wx := allW_by xs
      rw [← byL_app1] at h3
      rw [List.length_append, ← hlx] at h3
      rw [← hlx] at hx64
      simp only [hashV_wL] at h17 ⊢
      generalize byL xs = a at *
      generalize wL ns = r at *
      generalize hz : List.replicate 32 (PV.i IntKind.u8 0) = zz at *
      have ht : List.take a.length a = a := List.take_length
      have q0 : a.length ≤ 4294967296 := by omega
      have q1 : a.length + 1 ≤ 4294967296 := by omega
      have q2 : ¬ (a.length + 1 ≤ a.length) := by omega
      simp only [sl25, ob25, box, row, List.length_singleton] at h3
      simp -implicitDefEqProofs (maxSteps := 1000000) (disch := first | omega | rfl) [m88, hz, h17, fx, wx, ht, q0, q1, q2, KS, getS, getO, gS, zipN, dropW, takeW, wds, stvs, sea, seaL, refs, refsL, refsEls, refsO, isPureEls, isPures, isPure, noExt, noExts, noExtEls, cellsL, ren, renL, renEls, keepO, keepS, keysO, refsS, refsOB, cntN, headC, setS, boxO, row, putW, putB, putB1, eNl, newOs, frz, renO, noExtO, zps, zp, two32, w64, -getElem?_pos]
      exact h3
  · have hm : mayB xs.length L = false := by simpa using hm
    obtain ⟨o, ho, h24⟩ := E24 ns xs L hn
    have : uL o = List.replicate 32 (.i .u8 0) := by
      have h := h24 0 0
      rw [sem_succ tab (0 + 1000) (0 + 5) 63 m63 rfl] at h
      have h23 := L23 (0 + 1000) (0 + 4) ns xs L
      rw [hm] at h23
      simp only [hashV_wL] at h23 h
      generalize byL xs = a at *
      generalize wL ns = r at *
      generalize hz : List.replicate 32 (PV.i IntKind.u8 0) = zz at *
      simp -implicitDefEqProofs (maxSteps := 1000000) (disch := first | omega | rfl) [m63, hz, h23, KS, getS, getO, gS, zipN, dropW, takeW, wds, stvs, sea, seaL, refs, refsL, refsEls, refsO, isPureEls, isPures, isPure, noExt, noExts, noExtEls, cellsL, ren, renL, renEls, keepO, keepS, keysO, refsS, refsOB, cntN, headC, setS, boxO, row, putW, putB, putB1, eNl, newOs, frz, renO, noExtO, zps, zp, two32, w64, -getElem?_pos] at h
      exact h.symm
    have ho0 : o = List.replicate 32 0 := by
      have e : uL o = uL (List.replicate 32 0) := by rw [this, zero32]
      exact uL_inj e
    refine ⟨o, ho, fun y hy => by rw [ho0] at hy; rw [(List.mem_replicate.1 hy).2]; omega, h24, fun M d => ?_⟩
    rw [this, sem_succ tab (M + 1000) (d + 3) 88 m88 rfl]
    have h17 := L17 (M + 1000) (d + 2) ns xs L
    rw [hm] at h17
    simp only [hashV_wL] at h17 ⊢
    generalize byL xs = a at *
    generalize wL ns = r at *
    generalize hz : List.replicate 32 (PV.i IntKind.u8 0) = zz at *
    simp -implicitDefEqProofs (maxSteps := 1000000) (disch := first | omega | rfl) [m88, hz, h17, KS, getS, getO, gS, zipN, dropW, takeW, wds, stvs, sea, seaL, refs, refsL, refsEls, refsO, isPureEls, isPures, isPure, noExt, noExts, noExtEls, cellsL, ren, renL, renEls, keepO, keepS, keysO, refsS, refsOB, cntN, headC, setS, boxO, row, putW, putB, putB1, eNl, newOs, frz, renO, noExtO, zps, zp, two32, w64, -getElem?_pos]
theorem L25 (M d : Nat) (ns xs : List Int) (L : Int) (hn : ns.length = 8) (hb : ∀ y ∈ ns, 0 ≤ y ∧ y < 4294967296) (hx : ∀ n ∈ xs, 0 ≤ n ∧ n ≤ 255) : sem tab (M + 1000) (d + 4) 88 [hashV ns false xs L] [] = some (.agg [.blob 32 (uL (endI ns xs L))], []) := by
  obtain ⟨o, h1, h0, h2, h3⟩ := J24 ns xs L hn hb hx
  have e := (h2 0 0).symm.trans (L24 0 0 ns xs L hn)
  have e : uL o = uL (endI ns xs L) := by
    injection e with e; injection e with e; injection e with e; injection e with e; injection e with e
  rw [← e]; exact h3 M d
theorem endI_range (ns xs : List Int) (L : Int) (hn : ns.length = 8) (hb : ∀ y ∈ ns, 0 ≤ y ∧ y < 4294967296) (hx : ∀ n ∈ xs, 0 ≤ n ∧ n ≤ 255) : ∀ y ∈ endI ns xs L, 0 ≤ y ∧ y ≤ 255 := by
  obtain ⟨o, h1, h0, h2, h3⟩ := J24 ns xs L hn hb hx
  have e := (h2 0 0).symm.trans (L24 0 0 ns xs L hn)
  have e : uL o = uL (endI ns xs L) := by
    injection e with e; injection e with e; injection e with e; injection e with e; injection e with e
  rw [← uL_inj e]; exact h0
end
/-! ## PureRl -/
section
theorem nFirst_range : ∀ y ∈ nFirst, 0 ≤ y ∧ y < 4294967296 := by decide
theorem rounds_rest : ∀ (n : Nat) (rs xs : List Int), xs.length ≤ n → (∀ n ∈ xs, 0 ≤ n ∧ n ≤ 255) → ∀ y ∈ (rounds rs xs).2, 0 ≤ y ∧ y ≤ 255 := by
  intro n
  induction n with
  | zero =>
    intro rs xs h hb
    rw [rounds_short (by omega)]; exact hb
  | succ n ih =>
    intro rs xs h hb
    by_cases hx : xs.length < 64
    · rw [rounds_short hx]; exact hb
    · rw [rounds_long hx]
      exact ih _ _ (by simp; omega) (fun n hn => hb n (List.mem_of_mem_drop hn))
set_option maxHeartbeats 4000000 in
/-- The document's sum of bytes. -/
theorem L27 (M d : Nat) (ys : List Int) (h : ys.length ≤ 57600) (hb : ∀ n ∈ ys, 0 ≤ n ∧ n ≤ 255) : sem tab (M + 1000) (d + 5) 69 [.l false (byL ys)] [] = some (.agg [.blob 32 (uL (endI (rounds nFirst ys).1 (rounds nFirst ys).2 ys.length))], []) := by
  rw [sem_succ tab (M + 1000) (d + 4) 69 m69 rfl]
  have h22 := L22 (M + 1000) (d + 3)
  have h20 := L20 M d nFirst [] ys 0 rfl may_zero (by omega) (by simpa using h) (by simp) hb
  rw [List.nil_append, Int.zero_add] at h20
  have hb2 : ∀ n ∈ (rounds nFirst ys).2, 0 ≤ n ∧ n ≤ 255 := rounds_rest _ nFirst ys (Nat.le_refl _) hb
  have h25 := L25 M d (rounds nFirst ys).1 (rounds nFirst ys).2 ys.length (rounds_len _ nFirst ys (Nat.le_refl _) rfl).1 (rounds_range _ nFirst ys (Nat.le_refl _) rfl nFirst_range hb) hb2
  have hy := byL_len ys
  have hb : byL [] = [] := rfl
  rw [← hy] at h h20 h25 ⊢
  have n1 : ¬ ((byL ys).length : Int) > 1048576 := by omega
  have n2 : ¬ 1048576 < ((byL ys).length : Int) := by omega
  simp only [hashV_wL, hb] at h22 h20 h25 ⊢
  generalize byL (rounds nFirst ys).2 = q at *
  generalize wL (rounds nFirst ys).1 = r2 at *
  generalize wL nFirst = r at *
  generalize uL (endI _ _ _) = o at *
  generalize byL ys = b at *
  generalize hz : List.replicate 32 (PV.i IntKind.u8 0) = zz at *
  simp -implicitDefEqProofs (maxSteps := 1000000) (disch := first | omega | rfl) [m69, hz, h22, h20, h25, n1, n2, KS, getS, getO, gS, zipN, dropW, takeW, wds, stvs, sea, seaL, refs, refsL, refsEls, refsO, isPureEls, isPures, isPure, noExt, noExts, noExtEls, cellsL, ren, renL, renEls, keepO, keepS, keysO, refsS, refsOB, cntN, headC, setS, boxO, row, putW, putB, putB1, eNl, newOs, frz, renO, noExtO, zps, zp, two32, w64, -getElem?_pos]
theorem L27s (M d : Nat) (ys : List Int) (h : ys.length ≤ 57600) (hb : ∀ n ∈ ys, 0 ≤ n ∧ n ≤ 255) : sem tab (M + 1000) (d + 5) 69 [.l false (byL ys)] [] = some (.agg [.blob 32 (uL (sumI ys))], []) := L27 M d ys h hb
theorem sumI_range (ys : List Int) (hb : ∀ n ∈ ys, 0 ≤ n ∧ n ≤ 255) : ∀ n ∈ sumI ys, 0 ≤ n ∧ n ≤ 255 :=
  endI_range _ _ _ (rounds_len _ nFirst ys (Nat.le_refl _) rfl).1 (rounds_range _ nFirst ys (Nat.le_refl _) rfl nFirst_range hb) (rounds_rest _ nFirst ys (Nat.le_refl _) hb)
theorem app_range {xs ys : List Int} (hx : ∀ n ∈ xs, 0 ≤ n ∧ n ≤ 255) (hy : ∀ n ∈ ys, 0 ≤ n ∧ n ≤ 255) : ∀ n ∈ xs ++ ys, 0 ≤ n ∧ n ≤ 255 := fun n hn => by
  rcases List.mem_append.1 hn with h | h
  · exact hx n h
  · exact hy n h
theorem padI_range (xs : List Int) (c : Int) : ∀ n ∈ padI xs c, 0 ≤ n ∧ n ≤ 255 := fun n hn => by
  obtain ⟨x, _, rfl⟩ := List.mem_map.1 hn
  rw [xorI, IntKind.wrap_u8]; omega
def sl35 (n : Nat) : SL := [(3, .sl 95 0 0 n)]
def ob35 (t : List (List PV)) : OB := [(95, row t 1 true)]
set_option maxHeartbeats 4000000 in
theorem step35 (N d : Nat) (g : SL → OB → Option R) (t : List (List PV)) (h : t.length < 64) : m98b0 (sem tab N d) N [] g (sl35 t.length) (ob35 t) = g (sl35 (t.length + 1)) (ob35 (t ++ [[.i .u8 0]])) := by
  have c1 : (t.length : Int) < 64 := by omega
  have h2 : t.length + 1 ≤ 4294967296 := by omega
  have h3 : ¬ (t.length + 1 ≤ t.length) := by omega
  have ht : List.take t.length t = t := List.take_length
  simp -implicitDefEqProofs (maxSteps := 1000000) (disch := first | omega | rfl) [m98b0, sl35, ob35, h, c1, h2, h3, ht, KS, getS, getO, gS, zipN, dropW, takeW, wds, stvs, sea, seaL, refs, refsL, refsEls, refsO, isPureEls, isPures, isPure, noExt, noExts, noExtEls, cellsL, ren, renL, renEls, keepO, keepS, keysO, refsS, refsOB, cntN, headC, setS, boxO, row, putW, putB, putB1, eNl, newOs, frz, renO, noExtO, zps, zp, two32, w64, -getElem?_pos]
set_option maxHeartbeats 4000000 in
theorem end35 (N d : Nat) (g : SL → OB → Option R) (t : List (List PV)) (h : t.length = 64) : m98b0 (sem tab N d) N [] g (sl35 t.length) (ob35 t) = some (.sl 0 0 0 64, [row t 1 true]) := by
  have ht : List.take 64 t = t := List.take_of_length_le (by omega)
  simp -implicitDefEqProofs (maxSteps := 1000000) (disch := first | omega | rfl) [m98b0, sl35, ob35, h, ht, KS, getS, getO, gS, zipN, dropW, takeW, wds, stvs, sea, seaL, refs, refsL, refsEls, refsO, isPureEls, isPures, isPure, noExt, noExts, noExtEls, cellsL, ren, renL, renEls, keepO, keepS, keysO, refsS, refsOB, cntN, headC, setS, boxO, row, putW, putB, putB1, eNl, newOs, frz, renO, noExtO, zps, zp, two32, w64, -getElem?_pos]
theorem loop35 : ∀ (n : Nat) (ts : List Int), ts.length + n = 64 → ∀ N d M : Nat, loopC (m98b0 (sem tab N d) N []) (M + 1 + n) (sl35 ts.length) (ob35 (byL ts)) = some (.sl 0 0 0 64, [row (byL (ts ++ List.replicate n 0)) 1 true]) := by
  intro n
  induction n with
  | zero =>
    intro ts h N d M
    have := end35 N d (loopC (m98b0 (sem tab N d) N []) M) (byL ts) (by rw [byL_len]; omega)
    rw [byL_len] at this
    rw [Nat.add_zero, k_loop, this, List.replicate_zero, List.append_nil]
  | succ n ih =>
    intro ts h N d M
    have hy := step35 N d (loopC (m98b0 (sem tab N d) N []) (M + 1 + n)) (byL ts) (by rw [byL_len]; omega)
    rw [byL_len] at hy
    rw [show M + 1 + (n + 1) = (M + 1 + n) + 1 by omega, k_loop, hy, byL_app1]
    have := ih (ts ++ [0]) (by simp; omega) N d M
    rw [List.append_assoc, show [(0 : Int)] ++ List.replicate n 0 = List.replicate (n + 1) 0 from rfl] at this
    rw [show (ts ++ [(0 : Int)]).length = ts.length + 1 by simp] at this
    exact this
set_option maxHeartbeats 4000000 in
/-- The document's block of a key. -/
theorem L35 (M d : Nat) (xs : List Int) (h : xs.length ≤ 57600) (hb : ∀ n ∈ xs, 0 ≤ n ∧ n ≤ 255) : sem tab (M + 1000) (d + 6) 98 [.l false (byL xs)] [] = some (.sl 0 0 0 64, [row (byL (blockI xs)) 1 true]) := by
  rw [sem_succ tab (M + 1000) (d + 5) 98 m98 rfl]
  have hlx := byL_len xs
  have wx := allW_by xs
  have fx := flat_by xs
  have e35 : @m98b1 = @m98b0 := rfl
  by_cases f : 64 < xs.length
  · have h27 := L27s M d xs h hb
    have h := loop35 32 (sumI xs) (by rw [sumI_len]) (M + 1000) (d + 5) (M + 967)
    have hB : blockI xs = sumI xs ++ List.replicate 32 0 := by rw [blockI, if_pos f]
    rw [← hB, sumI_len] at h
    have hu := uL_by (sumI xs)
    have hul := uL_len (sumI xs)
    have hsl := byL_len (sumI xs)
    rw [sumI_len] at hul hsl
    have ws := allW_by (sumI xs)
    have fs := flat_by (sumI xs)
    rw [← hlx] at f
    generalize byL (blockI xs) = B at *
    generalize byL (sumI xs) = s at *
    generalize uL (sumI xs) = u at *
    generalize byL xs = a at *
    have f2 : (a.length : Int) > 64 := by omega
    have f3 : 64 < (a.length : Int) := by omega
    have p1 : a.length ≤ 4294967296 := by omega
    have hts : List.take 32 s = s := List.take_of_length_le (by omega)
    have htu : List.take 32 u = u := List.take_of_length_le (by omega)
    generalize hz : List.replicate 32 (PV.i IntKind.u8 0) = zz at *
    simp only [sl35, ob35, row, Nat.add_assoc] at h
    simp -implicitDefEqProofs (maxSteps := 1000000) (disch := first | omega | rfl) [m98, hz, h27, f, f2, f3, p1, wx, fx, hu, hul, hsl, hts, htu, ws, fs, k_slcA, k_slB, k_cont_bs, KS, getS, getO, gS, zipN, dropW, takeW, wds, stvs, sea, seaL, refs, refsL, refsEls, refsO, isPureEls, isPures, isPure, noExt, noExts, noExtEls, cellsL, ren, renL, renEls, keepO, keepS, keysO, refsS, refsOB, cntN, headC, setS, boxO, row, putW, putB, putB1, eNl, newOs, frz, renO, noExtO, zps, zp, two32, w64, -getElem?_pos]
    exact h
  · have h := loop35 (64 - xs.length) xs (by omega) (M + 1000) (d + 5) (M + 999 - (64 - xs.length))
    have hB : blockI xs = xs ++ List.replicate (64 - xs.length) 0 := by rw [blockI, if_neg f]
    rw [← hB, show M + 999 - (64 - xs.length) + 1 + (64 - xs.length) = M + 1000 by omega, ← e35, ← hlx] at h
    rw [← hlx] at f
    generalize byL (blockI xs) = B at *
    generalize byL xs = a at *
    have f2 : ¬ ((a.length : Int) > 64) := by omega
    have f3 : ¬ (64 < (a.length : Int)) := by omega
    have p1 : a.length ≤ 4294967296 := by omega
    have ht : List.take a.length a = a := List.take_length
    simp only [sl35, ob35, row] at h
    simp -implicitDefEqProofs (maxSteps := 1000000) (disch := first | omega | rfl) [m98, f, f2, f3, p1, wx, fx, ht, KS, getS, getO, gS, zipN, dropW, takeW, wds, stvs, sea, seaL, refs, refsL, refsEls, refsO, isPureEls, isPures, isPure, noExt, noExts, noExtEls, cellsL, ren, renL, renEls, keepO, keepS, keysO, refsS, refsOB, cntN, headC, setS, boxO, row, putW, putB, putB1, eNl, newOs, frz, renO, noExtO, zps, zp, two32, w64, -getElem?_pos]
    exact h
end
/-! ## PureRm -/
section
def sl42 (c k : Int) : SL := [(1, .i .u8 c), (5, .sl 128 0 0 64), (6, .i .i64 k)]
def ob42 (t : List (List PV)) : OB := [(128, row t 1 true)]
set_option maxHeartbeats 4000000 in
theorem step42 (N d : Nat) (g : SL → OB → Option R) (t : List (List PV)) (c x : Int) (k : Nat) (hk : k < 64) (hl : t.length = 64) (ht : t[k]? = some [.i .u8 x]) :
    m92b0 (sem tab N d) N [] g (sl42 c k) (ob42 t) = g (sl42 c (k + 1 : Nat)) (ob42 (t.set k [.i .u8 (xorI c x)])) := by
  have c1 : (k : Int) < 64 := by omega
  have c3 : (0 : Int) ≤ k := by omega
  simp -implicitDefEqProofs (maxSteps := 1000000) (disch := first | omega | rfl) [m92b0, sl42, ob42, hk, c1, c3, hl, ht, KS, getS, getO, gS, zipN, dropW, takeW, wds, stvs, sea, seaL, refs, refsL, refsEls, refsO, isPureEls, isPures, isPure, noExt, noExts, noExtEls, cellsL, ren, renL, renEls, keepO, keepS, keysO, refsS, refsOB, cntN, headC, setS, boxO, row, putW, putB, putB1, eNl, newOs, frz, renO, noExtO, zps, zp, two32, w64, -getElem?_pos]
  rfl
set_option maxHeartbeats 4000000 in
theorem end42 (N d : Nat) (g : SL → OB → Option R) (t : List (List PV)) (c : Int) (hl : t.length = 64) :
    m92b0 (sem tab N d) N [] g (sl42 c 64) (ob42 t) = some (.sl 0 0 0 64, [row t 1 true]) := by
  have ht : List.take 64 t = t := List.take_of_length_le (by omega)
  simp -implicitDefEqProofs (maxSteps := 1000000) (disch := first | omega | rfl) [m92b0, sl42, ob42, hl, ht, KS, getS, getO, gS, zipN, dropW, takeW, wds, stvs, sea, seaL, refs, refsL, refsEls, refsO, isPureEls, isPures, isPure, noExt, noExts, noExtEls, cellsL, ren, renL, renEls, keepO, keepS, keysO, refsS, refsOB, cntN, headC, setS, boxO, row, putW, putB, putB1, eNl, newOs, frz, renO, noExtO, zps, zp, two32, w64, -getElem?_pos]
theorem loop42 (bs : List Int) (hb : bs.length = 64) (c : Int) : ∀ (n k : Nat), k + n = 64 → ∀ N d M : Nat, loopC (m92b0 (sem tab N d) N []) (M + 1 + n) (sl42 c k) (ob42 (byL ((bs.take k).map (xorI c) ++ bs.drop k))) = some (.sl 0 0 0 64, [row (byL (bs.map (xorI c))) 1 true]) := by
  intro n
  induction n with
  | zero =>
    intro k hk N d M
    have : k = 64 := by omega
    subst this
    have e : (bs.take 64).map (xorI c) ++ bs.drop 64 = bs.map (xorI c) := by rw [List.take_of_length_le (by omega), List.drop_of_length_le (by omega), List.append_nil]
    rw [Nat.add_zero, k_loop, e, show ((64 : Nat) : Int) = 64 from rfl, end42 _ _ _ _ _ (by rw [byL_len, List.length_map, hb])]
  | succ n ih =>
    intro k hk N d M
    have hkb : k < bs.length := by omega
    have hl : ((bs.take k).map (xorI c) ++ bs.drop k).length = 64 := by simp; omega
    have gx : ((bs.take k).map (xorI c) ++ bs.drop k)[k]? = some bs[k] := by
      have hl' : ((bs.take k).map (xorI c)).length = k := by simp; omega
      rw [List.getElem?_append_right (by omega), hl', Nat.sub_self, List.getElem?_drop, Nat.add_zero, List.getElem?_eq_getElem hkb]
    rw [show M + 1 + (n + 1) = (M + 1 + n) + 1 by omega, k_loop, step42 N d _ _ c bs[k] k (by omega) (by rw [byL_len]; exact hl) (by rw [byL_get, gx]; rfl), byL_set, set_map hkb]
    exact ih (k + 1) (by omega) N d M
set_option maxHeartbeats 4000000 in
/-- A block padded. -/
theorem L42 (M d : Nat) (xs : List Int) (c : Int) (h : xs.length ≤ 57600) (hb : ∀ n ∈ xs, 0 ≤ n ∧ n ≤ 255) : sem tab (M + 1000) (d + 7) 92 [.l false (byL xs), .i .u8 c] [] = some (.sl 0 0 0 64, [row (byL (padI xs c)) 1 true]) := by
  rw [sem_succ tab (M + 1000) (d + 6) 92 m92 rfl]
  have h31 := L35 M d xs h hb
  have hl := blockI_len xs
  have h := loop42 (blockI xs) hl c 64 0 rfl (M + 1000) (d + 6) (M + 935)
  rw [List.take_zero, List.map_nil, List.nil_append, List.drop_zero] at h
  change _ = some (PV.sl 0 0 0 64, [row (byL (padI xs c)) 1 true]) at h
  have hbl := byL_len (blockI xs)
  rw [hl] at hbl
  have fb := flat_by (blockI xs)
  have wb := allW_by (blockI xs)
  generalize byL (padI xs c) = p at *
  generalize byL (blockI xs) = b at *
  generalize byL xs = a at *
  have ht : List.take 64 b = b := List.take_of_length_le (by omega)
  simp only [sl42, ob42, row] at h
  simp -implicitDefEqProofs (maxSteps := 1000000) (disch := first | omega | rfl) [m92, h31, hbl, fb, wb, ht, KS, getS, getO, gS, zipN, dropW, takeW, wds, stvs, sea, seaL, refs, refsL, refsEls, refsO, isPureEls, isPures, isPure, noExt, noExts, noExtEls, cellsL, ren, renL, renEls, keepO, keepS, keysO, refsS, refsOB, cntN, headC, setS, boxO, row, putW, putB, putB1, eNl, newOs, frz, renO, noExtO, zps, zp, two32, w64, -getElem?_pos]
  exact h
set_option maxHeartbeats 8000000 in
/-- The document's tag. -/
theorem L36 (M d : Nat) (xs ys : List Int) (hx : xs.length ≤ 57000) (hy : ys.length ≤ 57000) (hbx : ∀ n ∈ xs, 0 ≤ n ∧ n ≤ 255) (hby : ∀ n ∈ ys, 0 ≤ n ∧ n ≤ 255) : sem tab (M + 1000) (d + 8) 76 [.l false (byL xs), .l false (byL ys)] [] = some (.agg [.blob 32 (uL (tagI xs ys))], []) := by
  rw [sem_succ tab (M + 1000) (d + 7) 76 m76 rfl]
  have h1 := L42 M d xs 54 (by omega) hbx
  have h2 := L42 M d xs 92 (by omega) hbx
  have h3 := L27s M (d + 2) (padI xs 54 ++ ys) (by rw [List.length_append, padI_len]; omega) (app_range (padI_range xs 54) hby)
  have h4 := L27s M (d + 2) (padI xs 92 ++ sumI (padI xs 54 ++ ys)) (by rw [List.length_append, padI_len, sumI_len]; omega) (app_range (padI_range xs 92) (sumI_range _ (app_range (padI_range xs 54) hby)))
  change _ = some (PV.agg [PV.blob 32 (uL (tagI xs ys))], []) at h4
  have hly := byL_len ys
  have hu := uL_by (sumI (padI xs 54 ++ ys))
  have hul := uL_len (sumI (padI xs 54 ++ ys))
  have hsl := byL_len (sumI (padI xs 54 ++ ys))
  rw [sumI_len] at hul hsl
  have ws := allW_by (sumI (padI xs 54 ++ ys))
  have fs := flat_by (sumI (padI xs 54 ++ ys))
  have wy := allW_by ys
  have fy := flat_by ys
  have hp1 := byL_len (padI xs 54)
  have hp2 := byL_len (padI xs 92)
  rw [padI_len] at hp1 hp2
  rw [← byL_app] at h3 h4
  rw [← hly] at hy
  generalize byL (sumI (padI xs 54 ++ ys)) = s at *
  generalize uL (sumI (padI xs 54 ++ ys)) = u at *
  generalize uL (tagI xs ys) = T at *
  generalize byL (padI xs 54) = p1 at *
  generalize byL (padI xs 92) = p2 at *
  generalize byL xs = a at *
  generalize byL ys = b at *
  generalize hz : List.replicate 32 (PV.i IntKind.u8 0) = zz at *
  have htu : List.take 32 u = u := List.take_of_length_le (by omega)
  have t1 : List.take 64 p1 = p1 := List.take_of_length_le (by omega)
  have t2 : List.take 64 p2 = p2 := List.take_of_length_le (by omega)
  have t4 : List.take 96 (p2 ++ s) = p2 ++ s := List.take_of_length_le (by rw [List.length_append]; omega)
  by_cases hb : b = []
  · subst hb
    simp only [List.append_nil] at h3
    simp -implicitDefEqProofs (maxSteps := 1000000) (disch := first | omega | rfl) [m76, hz, h1, h2, h3, h4, hu, hul, hsl, hp1, hp2, ws, fs, wy, fy, htu, t1, t2, t4, k_slcA, k_slB, k_cont_bs, KS, getS, getO, gS, zipN, dropW, takeW, wds, stvs, sea, seaL, refs, refsL, refsEls, refsO, isPureEls, isPures, isPure, noExt, noExts, noExtEls, cellsL, ren, renL, renEls, keepO, keepS, keysO, refsS, refsOB, cntN, headC, setS, boxO, row, putW, putB, putB1, eNl, newOs, frz, renO, noExtO, zps, zp, two32, w64, -getElem?_pos]
  · have q1 : 64 + b.length ≤ 4294967296 := by omega
    have q2 : ¬ (64 + b.length ≤ 64) := by
      have := List.length_pos_iff.2 hb
      omega
    have t3 : List.take (64 + b.length) (p1 ++ b) = p1 ++ b := List.take_of_length_le (by rw [List.length_append]; omega)
    simp -implicitDefEqProofs (maxSteps := 1000000) (disch := first | omega | rfl) [m76, hz, h1, h2, h3, h4, hu, hul, hsl, hp1, hp2, ws, fs, wy, fy, htu, t1, t2, t3, t4, q1, q2, hb, k_slcA, k_slB, k_cont_bs, KS, getS, getO, gS, zipN, dropW, takeW, wds, stvs, sea, seaL, refs, refsL, refsEls, refsO, isPureEls, isPures, isPure, noExt, noExts, noExtEls, cellsL, ren, renL, renEls, keepO, keepS, keysO, refsS, refsOB, cntN, headC, setS, boxO, row, putW, putB, putB1, eNl, newOs, frz, renO, noExtO, zps, zp, two32, w64, -getElem?_pos]
theorem ltr_range (s : List UInt8) : ∀ n ∈ ltr s, 0 ≤ n ∧ n ≤ 255 := fun n hn => by
  obtain ⟨c, _, rfl⟩ := List.mem_map.1 hn
  have := c.toNat_lt
  omega
set_option maxHeartbeats 8000000 in
/-- The document's derived key. -/
theorem L34 (M d : Nat) (xs cs : List Int) (s : List UInt8) (hx : xs.length ≤ 57000) (hc : cs.length ≤ 50000) (hbx : ∀ n ∈ xs, 0 ≤ n ∧ n ≤ 255) (hbc : ∀ n ∈ cs, 0 ≤ n ∧ n ≤ 255) : sem tab (M + 1000) (d + 9) 50 [.l false (byL xs), .s s, .l false (byL cs)] [] = some (.tup [.agg [.blob 32 (uL (derI xs s cs))], .b (decide (1 ≤ s.length ∧ s.length ≤ 32))], []) := by
  rw [sem_succ tab (M + 1000) (d + 8) 50 m50 rfl]
  by_cases g : 1 ≤ s.length ∧ s.length ≤ 32
  · have hd : derI xs s cs = tagI xs ([(s.length : Int)] ++ ltr s ++ cs) := by rw [derI, if_pos g]
    rw [decide_eq_true g, hd]
    obtain ⟨g1, g2⟩ := g
    have hll := ltr_len s
    have h36 := L36 M d xs ([(s.length : Int)] ++ ltr s ++ cs) hx (by simp; omega) hbx (app_range (app_range (fun n hn => by rw [List.mem_singleton] at hn; omega) (ltr_range s)) hbc)
    have hb1 : byL ([(s.length : Int)] ++ ltr s ++ cs) = [[PV.i .u8 s.length]] ++ byL (ltr s) ++ byL cs := by rw [← byL_app, ← byL_app]; rfl
    rw [hb1] at h36
    have hlb := ltr_by s
    have hll2 := byL_len (ltr s)
    rw [hll] at hll2
    have fl := flat_by (ltr s)
    have wl := allW_by (ltr s)
    have fc := flat_by cs
    have wc := allW_by cs
    have hlc := byL_len cs
    rw [← hlc] at hc
    generalize uL (tagI xs ([(s.length : Int)] ++ ltr s ++ cs)) = T at *
    generalize byL (ltr s) = l at *
    generalize byL xs = a at *
    generalize byL cs = c at *
    generalize hz : List.replicate 32 (PV.i IntKind.u8 0) = zz at *
    have w1 : IntKind.u8.wrap (s.length : Int) = s.length := w8 (by omega) (by omega)
    have g3 : ¬ ((s.length : Int) < 1) := by omega
    have g3' : ¬ (s.length < 1) := by omega
    have g3'' : ¬ (s.length = 0) := by omega
    have g4 : ¬ ((s.length : Int) > 32) := by omega
    have g5 : ¬ (32 < (s.length : Int)) := by omega
    have q1 : 1 + s.length ≤ 4294967296 := by omega
    have q2 : ¬ (1 + s.length ≤ 1) := by omega
    have tl1 : List.take (1 + s.length) ([PV.i IntKind.u8 s.length] :: l) = [PV.i IntKind.u8 s.length] :: l := List.take_of_length_le (by simp; omega)
    have al : 1 + s.length ≤ s.length + 1 := by omega
    have dl : List.drop (1 + s.length) ([PV.i IntKind.u8 s.length] :: l) = [] := List.drop_of_length_le (by simp; omega)
    by_cases hc : c = []
    · subst hc
      simp only [List.append_nil, List.singleton_append] at h36
      simp -implicitDefEqProofs (maxSteps := 1000000) (disch := first | omega | rfl) [m50, hz, h36, hlb, hll2, fl, wl, fc, wc, w1, g1, g2, g3, g3', g3'', g4, g5, q1, q2, tl1, al, dl, KS, getS, getO, gS, zipN, dropW, takeW, wds, stvs, sea, seaL, refs, refsL, refsEls, refsO, isPureEls, isPures, isPure, noExt, noExts, noExtEls, cellsL, ren, renL, renEls, keepO, keepS, keysO, refsS, refsOB, cntN, headC, setS, boxO, row, putW, putB, putB1, eNl, newOs, frz, renO, noExtO, zps, zp, two32, w64, -getElem?_pos]
    · have q3 : 1 + s.length + c.length ≤ 4294967296 := by omega
      have q5 : 1 + s.length + c.length ≤ s.length + c.length + 1 := by omega
      have q4 : ¬ (1 + s.length + c.length ≤ s.length + 1) := by
        have := List.length_pos_iff.2 hc
        omega
      have tl2 : List.take (1 + s.length + c.length) ([PV.i IntKind.u8 s.length] :: (l ++ c)) = [PV.i IntKind.u8 s.length] :: (l ++ c) := List.take_of_length_le (by simp; omega)
      simp only [List.append_assoc, List.singleton_append, List.cons_append, List.nil_append] at h36
      simp -implicitDefEqProofs (maxSteps := 1000000) (disch := first | omega | rfl) [m50, hz, h36, hlb, hll2, fl, wl, fc, wc, w1, g1, g2, g3, g3', g3'', g4, g5, q1, q2, q3, q4, q5, tl1, tl2, al, hc, KS, getS, getO, gS, zipN, dropW, takeW, wds, stvs, sea, seaL, refs, refsL, refsEls, refsO, isPureEls, isPures, isPure, noExt, noExts, noExtEls, cellsL, ren, renL, renEls, keepO, keepS, keysO, refsS, refsOB, cntN, headC, setS, boxO, row, putW, putB, putB1, eNl, newOs, frz, renO, noExtO, zps, zp, two32, w64, -getElem?_pos]
  · have hd : derI xs s cs = List.replicate 32 0 := by rw [derI, if_neg g]
    rw [decide_eq_false g, hd, ← zero32]
    generalize byL xs = a at *
    generalize byL cs = c at *
    generalize hz : List.replicate 32 (PV.i IntKind.u8 0) = zz at *
    by_cases g0 : s = []
    · subst g0
      simp -implicitDefEqProofs (maxSteps := 1000000) (disch := first | omega | rfl) [m50, hz, KS, getS, getO, gS, zipN, dropW, takeW, wds, stvs, sea, seaL, refs, refsL, refsEls, refsO, isPureEls, isPures, isPure, noExt, noExts, noExtEls, cellsL, ren, renL, renEls, keepO, keepS, keysO, refsS, refsOB, cntN, headC, setS, boxO, row, putW, putB, putB1, eNl, newOs, frz, renO, noExtO, zps, zp, two32, w64, -getElem?_pos]
    · have g1 : 0 < s.length := List.length_pos_iff.2 g0
      have g2 : ¬ s.length ≤ 32 := fun h => g ⟨by omega, h⟩
      have g3 : ¬ ((s.length : Int) < 1) := by omega
      have g4 : (s.length : Int) > 32 := by omega
      have g5 : 32 < (s.length : Int) := by omega
      simp -implicitDefEqProofs (maxSteps := 1000000) (disch := first | omega | rfl) [m50, hz, g0, g1, g2, g3, g4, g5, KS, getS, getO, gS, zipN, dropW, takeW, wds, stvs, sea, seaL, refs, refsL, refsEls, refsO, isPureEls, isPures, isPure, noExt, noExts, noExtEls, cellsL, ren, renL, renEls, keepO, keepS, keysO, refsS, refsOB, cntN, headC, setS, boxO, row, putW, putB, putB1, eNl, newOs, frz, renO, noExtO, zps, zp, two32, w64, -getElem?_pos]
end
end Go.Proofs.YtcimkkcajkmfoaaDoor
