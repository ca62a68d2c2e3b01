/- Plain lemmas, part 3. -/
import Derived.Test.YtcimkkcajkmfoaaDoorPgB
set_option linter.all false
set_option linter.unusedSimpArgs false
set_option linter.unusedVariables false
namespace Go.Proofs.YtcimkkcajkmfoaaDoor
open Go
section
section
variable (ob : OB) (d w k o v i n : Nat) (X : Obj') (l : List PV)
theorem k_bldP : bldP ob d w l = bldU ob (bldS ob d w l) := rfl
theorem k_bldU (u : PV) : bldU ob (some (u, [(k, X)])) = if X.pu = true ∨ X.fro = true then some (u, [(k, X)]) else bldQ ob u k X (purEls ((k, X) :: ob) X.els) := rfl
theorem k_bldQ (u : PV) (els : List (List PV)) (g : Bool) (z : OB) : bldQ ob u k X (some (els, g, z)) = if (z.any fun y => y.1 == k) = true then none else some (u, (k, { X with els := els, pu := true, g := g }) :: (z ++ [(k, X)])) := rfl
theorem k_pur0 : purEls ob [] = some ([], true, []) := rfl
theorem k_pur1 (x : List PV) (r : List (List PV)) : purEls ob (x :: r) = purC (puris ob x) (purEls ob r) := rfl
theorem k_purC (a : List PV) (b : List (List PV)) (g g' : Bool) (u u' : OB) : purC (some (a, g, u)) (some (b, g', u')) = some (a :: b, g && g', u ++ u') := rfl
theorem k_puri_sl : puri ob (.sl o v i n) = frzX (getO ob o) o (contX (getO ob o) v i n) := rfl
theorem k_frzX (g : Bool) (xs : List (List PV)) : frzX (some X) o (some (g, xs)) = some (.l g xs, g, [(o, { X with fro := true })]) := rfl
end
/-- Rules of rows built as data. -/
def KP := And.intro @k_bldP (And.intro @k_bldU (And.intro @k_bldQ (And.intro @k_pur0 (And.intro @k_pur1 (And.intro @k_purC (And.intro @k_puri_sl @k_frzX))))))
/-- What is summed for entries, one by one. -/
noncomputable def txL : List Int → List En → List (List Int)
  | _, [] => []
  | h, e :: r => ([1] ++ h ++ encB e) :: txL (linkH h e) r
theorem txL_len : ∀ (l : List En) (h : List Int), (txL h l).length = l.length
  | [], _ => rfl
  | e :: r, h => by simp only [txL, List.length_cons, txL_len r]
def rwL (ts : List (List Int)) : List (List PV) := ts.map fun t => [.l true (byL t)]
theorem rwL_len (ts : List (List Int)) : (rwL ts).length = ts.length := by simp [rwL]
def sl71 (xs : List (List PV)) (m i n : Nat) : SL := [(3, .sl 95 0 0 m), (4, .p 96 0 0 0 none), (12, .l false xs), (13, .i .i64 n), (14, .i .i64 i)]
def ob71 (rows : List (List PV)) (h : List PV) : OB := [(95, row rows 1 true), (96, box [.blob 32 h] 32)]
set_option maxHeartbeats 16000000 in
theorem stepv71 (M d : Nat) (g : SL → OB → Option R) (xs : List (List PV)) (ts : List (List Int)) (h : List Int) (i n : Nat) (e : En) (hx : xs[i]? = some (enC e)) (hi : i < n) (hn : n < 1000) (ho : okE e) (hm : mayE e = true) (hl : h.length = 32) (ht : ts.length ≤ 1000) :
    m71b0 (sem tab (M + 1000) (d + 8)) (M + 1000) [] g (sl71 xs ts.length i n) (ob71 (rwL ts) (uL h)) = g (sl71 xs (ts ++ [[1] ++ h ++ encB e]).length (i + 1) n) (ob71 (rwL (ts ++ [[1] ++ h ++ encB e])) (uL (linkH h e))) := by
  have h36 := V36 M d h e hl ho
  rw [linkC, hm, cond_true] at h36
  have h34 := V34 (M + 900) (d + 4) e ho
  rw [show M + 900 + 100 = M + 1000 by omega, show d + 4 + 4 = d + 8 by omega, hm, cond_true] at h34
  have h66 := V66 M (d + 5) h (encB e) hl (by rw [encB_len]; omega)
  rw [encB_len] at h66
  have w2 := w64n (i := i) (by omega)
  have ci : (i : Int) < n := by omega
  have be := byL_len (encB e)
  rw [encB_len] at be
  have te : List.take 30 (byL (encB e)) = byL (encB e) := List.take_of_length_le (by omega)
  have wl := byL_len ([1] ++ h ++ encB e)
  simp only [List.length_append, List.length_singleton, hl, encB_len] at wl
  have tw : List.take 63 (byL ([1] ++ h ++ encB e)) = byL ([1] ++ h ++ encB e) := List.take_of_length_le (by omega)
  have ul := uL_len h
  rw [hl] at ul
  have ql := uL_len (linkH h e)
  rw [linkH_len] at ql
  have rl := rwL_len ts
  have ra : rwL (ts ++ [[1] ++ h ++ encB e]) = rwL ts ++ [[.l true (byL ([1] ++ h ++ encB e))]] := by simp [rwL]
  have al : (ts ++ [[1] ++ h ++ encB e]).length = ts.length + 1 := by simp
  have t0 : List.take ts.length (rwL ts) = rwL ts := List.take_of_length_le (by omega)
  have le1 : ts.length + 1 ≤ 4294967296 := by omega
  have le2 : ¬ ts.length + 1 ≤ ts.length := by omega
  simp only [sl71, ob71, al, ra]
  clear ra al
  generalize byL ([1] ++ h ++ encB e) = w at *
  generalize byL (encB e) = b at *
  generalize uL (linkH h e) = q at *
  generalize uL h = u at *
  generalize rwL ts = rs at *
  obtain ⟨e1, e2, e3, e4, e5, e6, e7, e8, e9⟩ := e
  simp only [enC] at h36 h34 hx
  simp only [row] at h34 h66
  simp -implicitDefEqProofs (maxSteps := 1000000) (disch := first | omega | rfl) [m71b0, hx, ci, w2, h34, h36, h66, be, te, wl, tw, ul, ql, rl, t0, le1, le2, box, KP, KV, KS, getS, getO, gS, zipN, dropW, takeW, wds, stvs, sea, seaL, refs, refsL, refsEls, refsO, isPureEls, isPures, isPure, noExt, noExts, noExtEls, cellsL, ren, renL, renEls, keepO, keepS, keysO, refsS, refsOB, cntN, headC, setS, boxO, row, putW, putB, putB1, eNl, newOs, frz, renO, noExtO, zps, zp, two32, w64, -getElem?_pos]
set_option maxHeartbeats 4000000 in
theorem endv71 (Φ : Sem') (N : Nat) (g : SL → OB → Option R) (xs : List (List PV)) (ts : List (List Int)) (h : List PV) (n : Nat) :
    m71b0 Φ N [] g (sl71 xs ts.length n n) (ob71 (rwL ts) h) = some (.sl 0 0 0 ts.length, [row (rwL ts) 1 true]) := by
  have rl := rwL_len ts
  have t0 : List.take ts.length (rwL ts) = rwL ts := List.take_of_length_le (by omega)
  simp only [sl71, ob71]
  generalize rwL ts = rs at *
  simp -implicitDefEqProofs (maxSteps := 1000000) (disch := first | omega | rfl) [m71b0, rl, t0, box, KP, KV, KS, getS, getO, gS, zipN, dropW, takeW, wds, stvs, sea, seaL, refs, refsL, refsEls, refsO, isPureEls, isPures, isPure, noExt, noExts, noExtEls, cellsL, ren, renL, renEls, keepO, keepS, keysO, refsS, refsOB, cntN, headC, setS, boxO, row, putW, putB, putB1, eNl, newOs, frz, renO, noExtO, zps, zp, two32, w64, -getElem?_pos]
theorem loopv71 (M d : Nat) (l : List En) (hl : l.length ≤ 264) (ho : ∀ e ∈ l, okE e) (hm : l.all mayE = true) : ∀ (k i e : Nat) (ts : List (List Int)) (h : List Int), i + k = l.length → h.length = 32 → ts.length = i + 1 →
    loopC (m71b0 (sem tab (M + 1000) (d + 8)) (M + 1000) []) (e + 1 + k) (sl71 (enL l) ts.length i l.length) (ob71 (rwL ts) (uL h)) = some (.sl 0 0 0 (ts ++ txL h (l.drop i)).length, [row (rwL (ts ++ txL h (l.drop i))) 1 true]) := by
  intro k
  induction k with
  | zero =>
    intro i e ts h hi hh ht
    have : i = l.length := by omega
    subst this
    rw [Nat.add_zero, k_loop, endv71, List.drop_length]
    simp [txL]
  | succ k ih =>
    intro i e ts h hi hh ht
    have hi' : i < l.length := by omega
    have hmi : mayE l[i] = true := (List.all_eq_true.1 hm) l[i] (List.getElem_mem hi')
    rw [← Nat.add_assoc, k_loop, stepv71 M d _ (enL l) ts h i l.length l[i] (enL_get l i hi') hi' (by omega) (ho _ (List.getElem_mem hi')) hmi hh (by omega), ih (i + 1) e _ _ (by omega) (linkH_len _ _) (by simp; omega), List.drop_eq_getElem_cons hi']
    simp [txL, List.append_assoc]
/-- All texts. -/
noncomputable def textsL (l : List En) : List (List Int) := [0] :: txL h0 l
set_option maxHeartbeats 8000000 in
theorem V71 (M d : Nat) (l : List En) (hl : l.length ≤ 264) (ho : ∀ e ∈ l, okE e) (hm : l.all mayE = true) : sem tab (M + 1000) (d + 9) 71 [.l false (enL l)] [] = some (.sl 0 0 0 (l.length + 1), [row (rwL (textsL l)) 1 true]) := by
  rw [sem_succ tab (M + 1000) (d + 8) 71 m71 rfl]
  have h45 := V45 M d
  rw [show sumI' [0] = h0 from rfl] at h45
  have h74 := V74 (M + 1000) (d + 7)
  have h := loopv71 M d l hl ho hm l.length 0 (M + 999 - l.length) [[0]] h0 (by omega) h0_len rfl
  rw [show M + 999 - l.length + 1 + l.length = M + 1000 by omega, List.drop_zero, show [[0]] ++ txL h0 l = textsL l from rfl, k_loop] at h
  have tl : (textsL l).length = l.length + 1 := by rw [textsL, List.length_cons, txL_len]
  rw [tl] at h
  have hn := enL_len l
  have ul := uL_len h0
  rw [h0_len] at ul
  have b0 : byL [0] = [[.i .u8 0]] := rfl
  rw [b0] at h74
  have r0 : rwL [[0]] = [[.l true [[.i .u8 0]]]] := rfl
  simp only [sl71, ob71, r0] at h
  rw [show ([[0]] : List (List Int)).length = 1 from rfl, show ((0 : Nat) : Int) = 0 from rfl] at h
  rw [← hn] at h ⊢
  simp only [row] at h74
  simp only [row, box] at h
  generalize rwL (textsL l) = rs at *
  generalize uL h0 = u at *
  have hzl : (List.replicate 32 (PV.i IntKind.u8 0)).length = 32 := rfl
  generalize hz' : List.replicate 32 (PV.i .u8 0) = zz at *
  generalize enL l = a at *
  simp -implicitDefEqProofs (maxSteps := 1000000) (disch := first | omega | rfl) [m71, h45, h74, h, hzl, hz', ul, box, KP, KV, KS, getS, getO, gS, zipN, dropW, takeW, wds, stvs, sea, seaL, refs, refsL, refsEls, refsO, isPureEls, isPures, isPure, noExt, noExts, noExtEls, cellsL, ren, renL, renEls, keepO, keepS, keysO, refsS, refsOB, cntN, headC, setS, boxO, row, putW, putB, putB1, eNl, newOs, frz, renO, noExtO, zps, zp, two32, w64, -getElem?_pos]
end
section
/-- From behind, as long as texts are the same; how many are left of each. -/
def clT (X Y : List (List Int)) : Nat → Nat → Option (List Int × List Int)
  | 0, _ => none
  | _ + 1, 0 => none
  | i + 1, k + 1 => cond (decide (chars (X.getD i []) = chars (Y.getD k []))) (clT X Y i k) (some (X.getD i [], Y.getD k []))
def outCl : Option (List Int × List Int) → Option R
  | none => some (.tup [.sl 0 0 0 0, .sl 1 0 0 0, .b false], [row [] 1 true, row [] 1 true])
  | some (x, y) => some (.tup [.l true (byL x), .l true (byL y), .b true], [])
def slCl (m n : Nat) (i k : Int) : SL := [(13, .sl 392 0 0 m), (14, .sl 408 0 0 n), (15, .i .i64 i), (16, .i .i64 k)]
def obCl (X Y : List (List Int)) : OB := [(392, row (rwL X) 1 true), (408, row (rwL Y) 1 true)]
theorem rwL_get (X : List (List Int)) (i : Nat) (h : i < X.length) : (rwL X)[i]? = some [.l true (byL (X.getD i []))] := by
  simp [rwL, h]
set_option maxHeartbeats 16000000 in
theorem stepv43 (N d : Nat) (g : SL → OB → Option R) (X Y : List (List Int)) (i k : Nat) (hi : i < X.length) (hk : k < Y.length) (hX : X.length < 1000) (hY : Y.length < 1000) :
    m43b2 (sem tab N (d + 1)) N [] g (slCl X.length Y.length i k) (obCl X Y) = cond (decide (chars (X.getD i []) = chars (Y.getD k []))) (g (slCl X.length Y.length ((i : Int) - 1) ((k : Int) - 1)) (obCl X Y)) (outCl (some (X.getD i [], Y.getD k []))) := by
  have h72 := V72 N d (X.getD i []) (Y.getD k [])
  have gx := rwL_get X i hi
  have gy := rwL_get Y k hk
  have lx := rwL_len X
  have ly := rwL_len Y
  have c1 : (0 : Int) ≤ (i : Int) := by omega
  have c2 : (0 : Int) ≤ (k : Int) := by omega
  have c3 : (i : Int) < (X.length : Int) := by omega
  have c4 : (k : Int) < (Y.length : Int) := by omega
  have w1 : IntKind.i64.wrap ((i : Int) - 1) = (i : Int) - 1 := w64 (by omega) (by omega)
  have w2 : IntKind.i64.wrap ((k : Int) - 1) = (k : Int) - 1 := w64 (by omega) (by omega)
  simp only [slCl, obCl, outCl]
  rw [← lx] at c3
  rw [← ly] at c4
  rw [← lx, ← ly]
  generalize decide (chars (X.getD i []) = chars (Y.getD k [])) = same at *
  generalize byL (X.getD i []) = x at *
  generalize byL (Y.getD k []) = y at *
  generalize rwL X = rx at *
  generalize rwL Y = ry at *
  cases same <;> simp -implicitDefEqProofs (maxSteps := 1000000) (disch := first | omega | rfl) [m43b2, h72, gx, gy, c1, c2, c3, c4, w1, w2, k_fin3, KP, KV, KS, getS, getO, gS, zipN, dropW, takeW, wds, stvs, sea, seaL, refs, refsL, refsEls, refsO, isPureEls, isPures, isPure, noExt, noExts, noExtEls, cellsL, ren, renL, renEls, keepO, keepS, keysO, refsS, refsOB, cntN, headC, setS, boxO, row, putW, putB, putB1, eNl, newOs, frz, renO, noExtO, zps, zp, two32, w64, -getElem?_pos]
set_option maxHeartbeats 4000000 in
theorem endv43 (Φ : Sem') (N : Nat) (g : SL → OB → Option R) (X Y : List (List Int)) (i k : Int) (h : i < 0 ∨ k < 0) :
    m43b2 Φ N [] g (slCl X.length Y.length i k) (obCl X Y) = outCl none := by
  simp only [slCl, obCl, outCl]
  by_cases c1 : 0 ≤ i
  · have c2 : ¬ 0 ≤ k := by omega
    simp -implicitDefEqProofs (maxSteps := 1000000) (disch := first | omega | rfl) [m43b2, c1, c2, k_fin3, KP, KV, KS, getS, getO, gS, zipN, dropW, takeW, wds, stvs, sea, seaL, refs, refsL, refsEls, refsO, isPureEls, isPures, isPure, noExt, noExts, noExtEls, cellsL, ren, renL, renEls, keepO, keepS, keysO, refsS, refsOB, cntN, headC, setS, boxO, row, putW, putB, putB1, eNl, newOs, frz, renO, noExtO, zps, zp, two32, w64, -getElem?_pos]
  · simp -implicitDefEqProofs (maxSteps := 1000000) (disch := first | omega | rfl) [m43b2, c1, k_fin3, KP, KV, KS, getS, getO, gS, zipN, dropW, takeW, wds, stvs, sea, seaL, refs, refsL, refsEls, refsO, isPureEls, isPures, isPure, noExt, noExts, noExtEls, cellsL, ren, renL, renEls, keepO, keepS, keysO, refsS, refsOB, cntN, headC, setS, boxO, row, putW, putB, putB1, eNl, newOs, frz, renO, noExtO, zps, zp, two32, w64, -getElem?_pos]
theorem loopv43 (N d : Nat) (X Y : List (List Int)) (hX : X.length < 1000) (hY : Y.length < 1000) : ∀ (i k e : Nat), i ≤ X.length → k ≤ Y.length →
    loopC (m43b2 (sem tab N (d + 1)) N []) (e + 1 + i) (slCl X.length Y.length ((i : Int) - 1) ((k : Int) - 1)) (obCl X Y) = outCl (clT X Y i k) := by
  intro i
  induction i with
  | zero =>
    intro k e _ _
    rw [Nat.add_zero, k_loop, endv43 _ _ _ X Y _ _ (.inl (by omega))]
    rfl
  | succ i ih =>
    intro k e hi hk
    cases k with
    | zero =>
      rw [← Nat.add_assoc, k_loop, endv43 _ _ _ X Y _ _ (.inr (by omega))]
      rfl
    | succ k =>
      rw [← Nat.add_assoc, k_loop, show ((i + 1 : Nat) : Int) - 1 = (i : Int) by omega, show ((k + 1 : Nat) : Int) - 1 = (k : Int) by omega, stepv43 N d _ X Y i k (by omega) (by omega) hX hY, clT]
      cases decide (chars (X.getD i []) = chars (Y.getD k []))
      · rfl
      · rw [cond_true, cond_true, ih k e (by omega) (by omega)]
theorem textsL_len (l : List En) : (textsL l).length = l.length + 1 := by rw [textsL, List.length_cons, txL_len]
/-- What chain.Clash answers. -/
noncomputable def clashR (a b : List En) : Option R := cond (a.all mayE && (b.all mayE && decide (hdL h0 a = hdL h0 b))) (outCl (clT (textsL a) (textsL b) (a.length + 1) (b.length + 1))) (outCl none)
theorem eqIs_dec' (a b : List Int) (h : a.length = b.length) : eqIs (uL a) (uL b) = some (decide (a = b)) := by
  have key : ∀ (a b : List Int), a.length = b.length → eqIs (uL a) (uL b) = some (decide (a = b)) := by
    intro a
    induction a with
    | nil => intro b h; cases b with | nil => rfl | cons y s => simp at h
    | cons x r ih =>
      intro b h
      cases b with
      | nil => simp at h
      | cons y s =>
        have := ih s (by simpa using h)
        simp only [uL, List.map_cons, eqIs, eqI, if_true] at this ⊢
        rw [this]
        simp only
        congr 1
        rw [Bool.eq_iff_iff]
        simp
  exact key a b h
set_option maxHeartbeats 16000000 in
theorem V43 (M d : Nat) (a b : List En) (ha : a.length ≤ 264) (hb : b.length ≤ 264) (hoa : ∀ e ∈ a, okE e) (hob : ∀ e ∈ b, okE e) : sem tab (M + 1000) (d + 10) 43 [.l false (enL a), .l false (enL b)] [] = clashR a b := by
  rw [sem_succ tab (M + 1000) (d + 9) 43 m43 rfl]
  have h32 := V32 M d a ha hoa
  have h32' := V32 M d b hb hob
  have ea := enL_len a
  have eb := enL_len b
  have qa := eqIs_dec' (hdL h0 a) (hdL h0 b) (by rw [hdL_len _ _ h0_len, hdL_len _ _ h0_len])
  have la := uL_len (hdL h0 a)
  rw [hdL_len _ _ h0_len] at la
  have lb := uL_len (hdL h0 b)
  rw [hdL_len _ _ h0_len] at lb
  have hz := hz32
  have hzl : (List.replicate 32 (PV.i IntKind.u8 0)).length = 32 := rfl
  have ra := recL_len a h0
  have rb := recL_len b h0
  have ta := byL_len (recL h0 a)
  have tb := byL_len (recL h0 b)
  have ka : List.take (recL h0 a).length (byL (recL h0 a)) = byL (recL h0 a) := List.take_of_length_le (by omega)
  have kb : List.take (recL h0 b).length (byL (recL h0 b)) = byL (recL h0 b) := List.take_of_length_le (by omega)
  simp only [clashR]
  cases ma : a.all mayE
  · rw [ma] at h32
    simp only [Bool.false_and, cond_false, outCl]
    generalize b.all mayE = mb at *
    simp only [noPut, yesPut, cond_false, ← hz, row] at h32 h32'
    clear hz qa
    generalize (recL h0 b).length = n at *
    generalize byL (recL h0 b) = q at *
    generalize uL (hdL h0 b) = u at *
    generalize enL a = xa at *
    generalize enL b = xb at *
    generalize hz' : List.replicate 32 (PV.i .u8 0) = zz at *
    cases mb <;> simp only [cond_true, cond_false] at h32' <;> simp -implicitDefEqProofs (maxSteps := 1000000) (disch := first | omega | rfl) [m43, h32, h32', hz', hzl, lb, tb, kb, k_fin3, box, KV, KS, getS, getO, gS, zipN, dropW, takeW, wds, stvs, sea, seaL, refs, refsL, refsEls, refsO, isPureEls, isPures, isPure, noExt, noExts, noExtEls, cellsL, ren, renL, renEls, keepO, keepS, keysO, refsS, refsOB, cntN, headC, setS, boxO, row, putW, putB, putB1, eNl, newOs, frz, renO, noExtO, zps, zp, two32, w64, -getElem?_pos]
  · rw [ma] at h32
    cases mb : b.all mayE
    · rw [mb] at h32'
      simp only [Bool.true_and, Bool.false_and, cond_false, outCl]
      simp only [noPut, yesPut, cond_true, cond_false, ← hz, row] at h32 h32'
      clear hz qa
      generalize (recL h0 a).length = n at *
      generalize byL (recL h0 a) = q at *
      generalize uL (hdL h0 a) = u at *
      generalize enL a = xa at *
      generalize enL b = xb at *
      generalize hz' : List.replicate 32 (PV.i .u8 0) = zz at *
      simp -implicitDefEqProofs (maxSteps := 1000000) (disch := first | omega | rfl) [m43, h32, h32', hz', hzl, la, ta, ka, k_fin3, box, KV, KS, getS, getO, gS, zipN, dropW, takeW, wds, stvs, sea, seaL, refs, refsL, refsEls, refsO, isPureEls, isPures, isPure, noExt, noExts, noExtEls, cellsL, ren, renL, renEls, keepO, keepS, keysO, refsS, refsOB, cntN, headC, setS, boxO, row, putW, putB, putB1, eNl, newOs, frz, renO, noExtO, zps, zp, two32, w64, -getElem?_pos]
    · rw [mb] at h32'
      simp only [Bool.true_and]
      simp only [yesPut, cond_true, row] at h32 h32'
      have h71 := V71 M d a ha hoa ma
      have h71' := V71 M d b hb hob mb
      have hlp := loopv43 (M + 1000) (d + 8) (textsL a) (textsL b) (by rw [textsL_len]; omega) (by rw [textsL_len]; omega) (a.length + 1) (b.length + 1) (M + 998 - a.length) (by rw [textsL_len]; omega) (by rw [textsL_len]; omega)
      rw [show M + 998 - a.length + 1 + (a.length + 1) = M + 1000 by omega, show ((a.length + 1 : Nat) : Int) - 1 = (a.length : Int) by omega, show ((b.length + 1 : Nat) : Int) - 1 = (b.length : Int) by omega, k_loop] at hlp
      have tla := textsL_len a
      have tlb := textsL_len b
      simp only [slCl, obCl, row, tla, tlb] at hlp
      cases hq : decide (hdL h0 a = hdL h0 b)
      · rw [hq] at qa
        simp only [cond_false, outCl]
        clear hlp h71 h71' hz hq
        generalize (recL h0 a).length = n at *
        generalize byL (recL h0 a) = q at *
        generalize uL (hdL h0 a) = u at *
        generalize (recL h0 b).length = n' at *
        generalize byL (recL h0 b) = q' at *
        generalize uL (hdL h0 b) = u' at *
        generalize enL a = xa at *
        generalize enL b = xb at *
        generalize hz' : List.replicate 32 (PV.i .u8 0) = zz at *
        simp -implicitDefEqProofs (maxSteps := 1000000) (disch := first | omega | rfl) [m43, h32, h32', qa, hz', hzl, la, lb, ta, tb, ka, kb, k_fin3, box, KV, KS, getS, getO, gS, zipN, dropW, takeW, wds, stvs, sea, seaL, refs, refsL, refsEls, refsO, isPureEls, isPures, isPure, noExt, noExts, noExtEls, cellsL, ren, renL, renEls, keepO, keepS, keysO, refsS, refsOB, cntN, headC, setS, boxO, row, putW, putB, putB1, eNl, newOs, frz, renO, noExtO, zps, zp, two32, w64, -getElem?_pos]
      · rw [hq] at qa
        simp only [cond_true]
        clear hz hq
        rw [← hlp]
        clear hlp
        rw [← ea] at h71 ⊢
        rw [← eb] at h71' ⊢
        generalize (recL h0 a).length = n at *
        generalize byL (recL h0 a) = q at *
        generalize uL (hdL h0 a) = u at *
        generalize (recL h0 b).length = n' at *
        generalize byL (recL h0 b) = q' at *
        generalize uL (hdL h0 b) = u' at *
        generalize rwL (textsL a) = ya at *
        generalize rwL (textsL b) = yb at *
        generalize enL a = xa at *
        generalize enL b = xb at *
        generalize hz' : List.replicate 32 (PV.i .u8 0) = zz at *
        simp only [row] at h71 h71'
        simp -implicitDefEqProofs (maxSteps := 1000000) (disch := first | omega | rfl) [m43, h32, h32', h71, h71', qa, hz', hzl, la, lb, ta, tb, ka, kb, box, KV, KS, getS, getO, gS, zipN, dropW, takeW, wds, stvs, sea, seaL, refs, refsL, refsEls, refsO, isPureEls, isPures, isPure, noExt, noExts, noExtEls, cellsL, ren, renL, renEls, keepO, keepS, keysO, refsS, refsOB, cntN, headC, setS, boxO, row, putW, putB, putB1, eNl, newOs, frz, renO, noExtO, zps, zp, two32, w64, -getElem?_pos]
end
section
theorem hdL_snoc (l : List En) (e : En) (h : List Int) : hdL h (l ++ [e]) = linkH (hdL h l) e := by
  induction l generalizing h with
  | nil => rfl
  | cons x r ih => simp only [List.cons_append, hdL, ih]
theorem txL_get : ∀ (l : List En) (h : List Int) (i : Nat) (hi : i < l.length), (txL h l).getD i [] = [1] ++ hdL h (l.take i) ++ encB l[i]
  | e :: r, h, 0, _ => rfl
  | e :: r, h, i + 1, hi => by
    have := txL_get r (linkH h e) i (by simpa using hi)
    simpa [txL, hdL] using this
/-- The text behind i entries. -/
theorem text_get (l : List En) (i : Nat) (hi : i < l.length) : (textsL l).getD (i + 1) [] = [1] ++ hdL h0 (l.take i) ++ encB l[i] := by
  have := txL_get l h0 i hi
  simpa [textsL] using this
theorem text_get0 (l : List En) : (textsL l).getD 0 [] = [0] := rfl
theorem text_sum (l : List En) (i : Nat) (hi : i ≤ l.length) : sumI' ((textsL l).getD i []) = hdL h0 (l.take i) := by
  cases i with
  | zero => rfl
  | succ i =>
    rw [text_get l i (by omega), List.take_succ_eq_append_getElem (by omega), hdL_snoc]
    rfl
theorem text_R (l : List En) (i : Nat) (hi : i ≤ l.length) : byR ((textsL l).getD i []) := by
  cases i with
  | zero => rw [text_get0]; exact fun x hx => by simp at hx; omega
  | succ i =>
    rw [text_get l i (by omega)]
    exact byR_app (byR_app (fun x hx => by simp at hx; omega) (hdL_R _ h0 h0_R)) (encB_R _)
theorem text_len (l : List En) (i : Nat) (hi : i ≤ l.length) : ((textsL l).getD i []).length ≤ 63 ∧ (((textsL l).getD i []).length = 1 ↔ i = 0) ∧ 0 < ((textsL l).getD i []).length := by
  cases i with
  | zero => rw [text_get0]; simp
  | succ i =>
    rw [text_get l i (by omega)]
    simp only [List.length_append, List.length_singleton, hdL_len _ _ h0_len, encB_len]
    omega
/-- What two lists of one head tell. -/
theorem clash_ind (a b : List En) (ha : a.all mayE = true) (hb : b.all mayE = true) (oa : ∀ e ∈ a, okE e) (ob : ∀ e ∈ b, okE e) : ∀ (i k : Nat), i ≤ a.length → k ≤ b.length → hdL h0 (a.take i) = hdL h0 (b.take k) →
    (clT (textsL a) (textsL b) (i + 1) (k + 1) = none ∧ a.take i = b.take k) ∨ ∃ x y, clT (textsL a) (textsL b) (i + 1) (k + 1) = some (x, y) ∧ a.take i ≠ b.take k ∧ chars x ≠ chars y ∧ sumI' x = sumI' y ∧ 0 < x.length ∧ x.length ≤ 63 ∧ 0 < y.length ∧ y.length ≤ 63 := by
  intro i
  induction i with
  | zero =>
    intro k hi hk hh
    rw [clT]
    by_cases hc : chars ((textsL a).getD 0 []) = chars ((textsL b).getD k [])
    · have e1 := chars_injV _ _ (text_R a 0 hi) (text_R b k hk) hc
      have k0 : k = 0 := by
        have l1 := congrArg List.length e1
        rw [text_get0] at l1
        exact (text_len b k hk).2.1.1 l1.symm
      subst k0
      rw [decide_eq_true hc]
      exact .inl ⟨rfl, by simp⟩
    · rw [decide_eq_false hc]
      refine .inr ⟨_, _, rfl, ?_, hc, by rw [text_sum a 0 hi, text_sum b k hk, hh], (text_len a 0 hi).2.2, (text_len a 0 hi).1, (text_len b k hk).2.2, (text_len b k hk).1⟩
      intro e
      have : k = 0 := by
        have := congrArg List.length e
        simp only [List.take_zero, List.length_nil, List.length_take] at this
        omega
      subst this
      exact hc rfl
  | succ i ih =>
    intro k hi hk hh
    rw [clT]
    by_cases hc : chars ((textsL a).getD (i + 1) []) = chars ((textsL b).getD k [])
    · have e1 := chars_injV _ _ (text_R a (i + 1) hi) (text_R b k hk) hc
      cases k with
      | zero =>
        have l1 := congrArg List.length e1
        rw [text_get0] at l1
        have := (text_len a (i + 1) hi).2.1.1 l1
        omega
      | succ k =>
        rw [text_get a i (by omega), text_get b k (by omega)] at e1
        have l1 : ([1] ++ hdL h0 (a.take i) : List Int).length = ([1] ++ hdL h0 (b.take k) : List Int).length := by simp [hdL_len _ _ h0_len]
        obtain ⟨e2, e3⟩ := List.append_inj e1 l1
        have e4 : hdL h0 (a.take i) = hdL h0 (b.take k) := by simpa using e2
        have e5 : a[i] = b[k] := enc_inj _ _ (oa _ (List.getElem_mem _)) (ob _ (List.getElem_mem _)) ((List.all_eq_true.1 ha) _ (List.getElem_mem _)) ((List.all_eq_true.1 hb) _ (List.getElem_mem _)) e3
        rw [decide_eq_true hc, cond_true, List.take_succ_eq_append_getElem (show i < a.length by omega), List.take_succ_eq_append_getElem (show k < b.length by omega), e5]
        rcases ih k (by omega) (by omega) e4 with ⟨g1, g2⟩ | ⟨x, y, g1, g2, g3⟩
        · exact .inl ⟨g1, by rw [g2]⟩
        · exact .inr ⟨x, y, g1, fun e => g2 (List.append_cancel_right e), g3⟩
    · rw [decide_eq_false hc]
      refine .inr ⟨_, _, rfl, ?_, hc, by rw [text_sum a (i + 1) hi, text_sum b k hk, hh], (text_len a (i + 1) hi).2.2, (text_len a (i + 1) hi).1, (text_len b k hk).2.2, (text_len b k hk).1⟩
      intro e
      have hk1 : k = i + 1 := by
        have := congrArg List.length e
        simp only [List.length_take] at this
        omega
      subst hk1
      have ea := List.take_succ_eq_append_getElem (show i < a.length by omega)
      have eb := List.take_succ_eq_append_getElem (show i < b.length by omega)
      rw [ea, eb] at e
      obtain ⟨e6, e7⟩ := List.append_inj' e rfl
      apply hc
      rw [text_get a i (by omega), text_get b i (by omega), e6]
      have : a[i] = b[i] := by simpa using e7
      rw [this]
end
section
set_option maxHeartbeats 8000000 in
theorem V87 (N d : Nat) (e : En) : sem tab N (d + 1) 87 [.agg (enC e)] [] = some (.b (mayE e), []) := by
  rw [sem_succ tab N d 87 m87 rfl]
  obtain ⟨e1, e2, e3, e4, e5, e6, e7, e8, e9⟩ := e
  by_cases c0 : e1 < 0
  · have hm : mayE ⟨e1, e2, e3, e4, e5, e6, e7, e8, e9⟩ = false := by
      rw [← Bool.not_eq_true]; intro h; simp only [mayE, inB, Bool.and_eq_true, decide_eq_true_eq] at h; omega
    rw [hm]
    simp only [enC]
    simp -implicitDefEqProofs (maxSteps := 1000000) (disch := first | omega | rfl) [m87, c0, box, KS, getS, getO, gS, zipN, dropW, takeW, wds, stvs, sea, seaL, refs, refsL, refsEls, refsO, isPureEls, isPures, isPure, noExt, noExts, noExtEls, cellsL, ren, renL, renEls, keepO, keepS, keysO, refsS, refsOB, cntN, headC, setS, boxO, row, putW, putB, putB1, eNl, newOs, frz, renO, noExtO, zps, zp, two32, w64, -getElem?_pos]
  have g0 : ¬ e1 < 0 := by omega
  clear c0
  by_cases c1 : e1 ≥ 5
  · have hm : mayE ⟨e1, e2, e3, e4, e5, e6, e7, e8, e9⟩ = false := by
      rw [← Bool.not_eq_true]; intro h; simp only [mayE, inB, Bool.and_eq_true, decide_eq_true_eq] at h; omega
    have d1 : 5 ≤ e1 := by omega
    rw [hm]
    simp only [enC]
    simp -implicitDefEqProofs (maxSteps := 1000000) (disch := first | omega | rfl) [m87, g0, c1, d1, box, KS, getS, getO, gS, zipN, dropW, takeW, wds, stvs, sea, seaL, refs, refsL, refsEls, refsO, isPureEls, isPures, isPure, noExt, noExts, noExtEls, cellsL, ren, renL, renEls, keepO, keepS, keysO, refsS, refsOB, cntN, headC, setS, boxO, row, putW, putB, putB1, eNl, newOs, frz, renO, noExtO, zps, zp, two32, w64, -getElem?_pos]
  have g1 : ¬ e1 ≥ 5 := by omega
  have h1 : ¬ 5 ≤ e1 := by omega
  clear c1
  by_cases c2 : e2 < 0
  · have hm : mayE ⟨e1, e2, e3, e4, e5, e6, e7, e8, e9⟩ = false := by
      rw [← Bool.not_eq_true]; intro h; simp only [mayE, inB, Bool.and_eq_true, decide_eq_true_eq] at h; omega
    rw [hm]
    simp only [enC]
    simp -implicitDefEqProofs (maxSteps := 1000000) (disch := first | omega | rfl) [m87, g0, g1, h1, c2, box, KS, getS, getO, gS, zipN, dropW, takeW, wds, stvs, sea, seaL, refs, refsL, refsEls, refsO, isPureEls, isPures, isPure, noExt, noExts, noExtEls, cellsL, ren, renL, renEls, keepO, keepS, keysO, refsS, refsOB, cntN, headC, setS, boxO, row, putW, putB, putB1, eNl, newOs, frz, renO, noExtO, zps, zp, two32, w64, -getElem?_pos]
  have g2 : ¬ e2 < 0 := by omega
  clear c2
  by_cases c3 : e2 > 1073741824
  · have hm : mayE ⟨e1, e2, e3, e4, e5, e6, e7, e8, e9⟩ = false := by
      rw [← Bool.not_eq_true]; intro h; simp only [mayE, inB, Bool.and_eq_true, decide_eq_true_eq] at h; omega
    have d3 : 1073741824 < e2 := by omega
    rw [hm]
    simp only [enC]
    simp -implicitDefEqProofs (maxSteps := 1000000) (disch := first | omega | rfl) [m87, g0, g1, h1, g2, c3, d3, box, KS, getS, getO, gS, zipN, dropW, takeW, wds, stvs, sea, seaL, refs, refsL, refsEls, refsO, isPureEls, isPures, isPure, noExt, noExts, noExtEls, cellsL, ren, renL, renEls, keepO, keepS, keysO, refsS, refsOB, cntN, headC, setS, boxO, row, putW, putB, putB1, eNl, newOs, frz, renO, noExtO, zps, zp, two32, w64, -getElem?_pos]
  have g3 : ¬ e2 > 1073741824 := by omega
  have h3 : ¬ 1073741824 < e2 := by omega
  clear c3
  by_cases c4 : e3 < 0
  · have hm : mayE ⟨e1, e2, e3, e4, e5, e6, e7, e8, e9⟩ = false := by
      rw [← Bool.not_eq_true]; intro h; simp only [mayE, inB, Bool.and_eq_true, decide_eq_true_eq] at h; omega
    rw [hm]
    simp only [enC]
    simp -implicitDefEqProofs (maxSteps := 1000000) (disch := first | omega | rfl) [m87, g0, g1, h1, g2, g3, h3, c4, box, KS, getS, getO, gS, zipN, dropW, takeW, wds, stvs, sea, seaL, refs, refsL, refsEls, refsO, isPureEls, isPures, isPure, noExt, noExts, noExtEls, cellsL, ren, renL, renEls, keepO, keepS, keysO, refsS, refsOB, cntN, headC, setS, boxO, row, putW, putB, putB1, eNl, newOs, frz, renO, noExtO, zps, zp, two32, w64, -getElem?_pos]
  have g4 : ¬ e3 < 0 := by omega
  clear c4
  by_cases c5 : e3 > 1073741824
  · have hm : mayE ⟨e1, e2, e3, e4, e5, e6, e7, e8, e9⟩ = false := by
      rw [← Bool.not_eq_true]; intro h; simp only [mayE, inB, Bool.and_eq_true, decide_eq_true_eq] at h; omega
    have d5 : 1073741824 < e3 := by omega
    rw [hm]
    simp only [enC]
    simp -implicitDefEqProofs (maxSteps := 1000000) (disch := first | omega | rfl) [m87, g0, g1, h1, g2, g3, h3, g4, c5, d5, box, KS, getS, getO, gS, zipN, dropW, takeW, wds, stvs, sea, seaL, refs, refsL, refsEls, refsO, isPureEls, isPures, isPure, noExt, noExts, noExtEls, cellsL, ren, renL, renEls, keepO, keepS, keysO, refsS, refsOB, cntN, headC, setS, boxO, row, putW, putB, putB1, eNl, newOs, frz, renO, noExtO, zps, zp, two32, w64, -getElem?_pos]
  have g5 : ¬ e3 > 1073741824 := by omega
  have h5 : ¬ 1073741824 < e3 := by omega
  clear c5
  by_cases c6 : ¬ e4 ≥ 0
  · have hm : mayE ⟨e1, e2, e3, e4, e5, e6, e7, e8, e9⟩ = false := by
      rw [← Bool.not_eq_true]; intro h; simp only [mayE, inB, Bool.and_eq_true, decide_eq_true_eq] at h; omega
    have d6 : ¬ 0 ≤ e4 := by omega
    rw [hm]
    simp only [enC]
    simp -implicitDefEqProofs (maxSteps := 1000000) (disch := first | omega | rfl) [m87, g0, g1, h1, g2, g3, h3, g4, g5, h5, c6, d6, box, KS, getS, getO, gS, zipN, dropW, takeW, wds, stvs, sea, seaL, refs, refsL, refsEls, refsO, isPureEls, isPures, isPure, noExt, noExts, noExtEls, cellsL, ren, renL, renEls, keepO, keepS, keysO, refsS, refsOB, cntN, headC, setS, boxO, row, putW, putB, putB1, eNl, newOs, frz, renO, noExtO, zps, zp, two32, w64, -getElem?_pos]
  have g6 : e4 ≥ 0 := by omega
  have h6 : 0 ≤ e4 := by omega
  clear c6
  by_cases c7 : ¬ e4 ≤ 255
  · have hm : mayE ⟨e1, e2, e3, e4, e5, e6, e7, e8, e9⟩ = false := by
      rw [← Bool.not_eq_true]; intro h; simp only [mayE, inB, Bool.and_eq_true, decide_eq_true_eq] at h; omega
    rw [hm]
    simp only [enC]
    simp -implicitDefEqProofs (maxSteps := 1000000) (disch := first | omega | rfl) [m87, g0, g1, h1, g2, g3, h3, g4, g5, h5, g6, h6, c7, box, KS, getS, getO, gS, zipN, dropW, takeW, wds, stvs, sea, seaL, refs, refsL, refsEls, refsO, isPureEls, isPures, isPure, noExt, noExts, noExtEls, cellsL, ren, renL, renEls, keepO, keepS, keysO, refsS, refsOB, cntN, headC, setS, boxO, row, putW, putB, putB1, eNl, newOs, frz, renO, noExtO, zps, zp, two32, w64, -getElem?_pos]
  have g7 : e4 ≤ 255 := by omega
  clear c7
  by_cases c8 : ¬ e7 ≥ 0
  · have hm : mayE ⟨e1, e2, e3, e4, e5, e6, e7, e8, e9⟩ = false := by
      rw [← Bool.not_eq_true]; intro h; simp only [mayE, inB, Bool.and_eq_true, decide_eq_true_eq] at h; omega
    have d8 : ¬ 0 ≤ e7 := by omega
    rw [hm]
    simp only [enC]
    simp -implicitDefEqProofs (maxSteps := 1000000) (disch := first | omega | rfl) [m87, g0, g1, h1, g2, g3, h3, g4, g5, h5, g6, h6, g7, c8, d8, box, KS, getS, getO, gS, zipN, dropW, takeW, wds, stvs, sea, seaL, refs, refsL, refsEls, refsO, isPureEls, isPures, isPure, noExt, noExts, noExtEls, cellsL, ren, renL, renEls, keepO, keepS, keysO, refsS, refsOB, cntN, headC, setS, boxO, row, putW, putB, putB1, eNl, newOs, frz, renO, noExtO, zps, zp, two32, w64, -getElem?_pos]
  have g8 : e7 ≥ 0 := by omega
  have h8 : 0 ≤ e7 := by omega
  clear c8
  by_cases c9 : ¬ e7 ≤ 255
  · have hm : mayE ⟨e1, e2, e3, e4, e5, e6, e7, e8, e9⟩ = false := by
      rw [← Bool.not_eq_true]; intro h; simp only [mayE, inB, Bool.and_eq_true, decide_eq_true_eq] at h; omega
    rw [hm]
    simp only [enC]
    simp -implicitDefEqProofs (maxSteps := 1000000) (disch := first | omega | rfl) [m87, g0, g1, h1, g2, g3, h3, g4, g5, h5, g6, h6, g7, g8, h8, c9, box, KS, getS, getO, gS, zipN, dropW, takeW, wds, stvs, sea, seaL, refs, refsL, refsEls, refsO, isPureEls, isPures, isPure, noExt, noExts, noExtEls, cellsL, ren, renL, renEls, keepO, keepS, keysO, refsS, refsOB, cntN, headC, setS, boxO, row, putW, putB, putB1, eNl, newOs, frz, renO, noExtO, zps, zp, two32, w64, -getElem?_pos]
  have g9 : e7 ≤ 255 := by omega
  clear c9
  by_cases c10 : ¬ e8 ≥ 0
  · have hm : mayE ⟨e1, e2, e3, e4, e5, e6, e7, e8, e9⟩ = false := by
      rw [← Bool.not_eq_true]; intro h; simp only [mayE, inB, Bool.and_eq_true, decide_eq_true_eq] at h; omega
    have d10 : ¬ 0 ≤ e8 := by omega
    rw [hm]
    simp only [enC]
    simp -implicitDefEqProofs (maxSteps := 1000000) (disch := first | omega | rfl) [m87, g0, g1, h1, g2, g3, h3, g4, g5, h5, g6, h6, g7, g8, h8, g9, c10, d10, box, KS, getS, getO, gS, zipN, dropW, takeW, wds, stvs, sea, seaL, refs, refsL, refsEls, refsO, isPureEls, isPures, isPure, noExt, noExts, noExtEls, cellsL, ren, renL, renEls, keepO, keepS, keysO, refsS, refsOB, cntN, headC, setS, boxO, row, putW, putB, putB1, eNl, newOs, frz, renO, noExtO, zps, zp, two32, w64, -getElem?_pos]
  have g10 : e8 ≥ 0 := by omega
  have h10 : 0 ≤ e8 := by omega
  clear c10
  by_cases c11 : ¬ e8 ≤ 65535
  · have hm : mayE ⟨e1, e2, e3, e4, e5, e6, e7, e8, e9⟩ = false := by
      rw [← Bool.not_eq_true]; intro h; simp only [mayE, inB, Bool.and_eq_true, decide_eq_true_eq] at h; omega
    rw [hm]
    simp only [enC]
    simp -implicitDefEqProofs (maxSteps := 1000000) (disch := first | omega | rfl) [m87, g0, g1, h1, g2, g3, h3, g4, g5, h5, g6, h6, g7, g8, h8, g9, g10, h10, c11, box, KS, getS, getO, gS, zipN, dropW, takeW, wds, stvs, sea, seaL, refs, refsL, refsEls, refsO, isPureEls, isPures, isPure, noExt, noExts, noExtEls, cellsL, ren, renL, renEls, keepO, keepS, keysO, refsS, refsOB, cntN, headC, setS, boxO, row, putW, putB, putB1, eNl, newOs, frz, renO, noExtO, zps, zp, two32, w64, -getElem?_pos]
  have g11 : e8 ≤ 65535 := by omega
  clear c11
  by_cases c12 : ¬ e9 ≥ 0
  · have hm : mayE ⟨e1, e2, e3, e4, e5, e6, e7, e8, e9⟩ = false := by
      rw [← Bool.not_eq_true]; intro h; simp only [mayE, inB, Bool.and_eq_true, decide_eq_true_eq] at h; omega
    have d12 : ¬ 0 ≤ e9 := by omega
    rw [hm]
    simp only [enC]
    simp -implicitDefEqProofs (maxSteps := 1000000) (disch := first | omega | rfl) [m87, g0, g1, h1, g2, g3, h3, g4, g5, h5, g6, h6, g7, g8, h8, g9, g10, h10, g11, c12, d12, box, KS, getS, getO, gS, zipN, dropW, takeW, wds, stvs, sea, seaL, refs, refsL, refsEls, refsO, isPureEls, isPures, isPure, noExt, noExts, noExtEls, cellsL, ren, renL, renEls, keepO, keepS, keysO, refsS, refsOB, cntN, headC, setS, boxO, row, putW, putB, putB1, eNl, newOs, frz, renO, noExtO, zps, zp, two32, w64, -getElem?_pos]
  have g12 : e9 ≥ 0 := by omega
  have h12 : 0 ≤ e9 := by omega
  clear c12
  by_cases c13 : ¬ e9 ≤ 12
  · have hm : mayE ⟨e1, e2, e3, e4, e5, e6, e7, e8, e9⟩ = false := by
      rw [← Bool.not_eq_true]; intro h; simp only [mayE, inB, Bool.and_eq_true, decide_eq_true_eq] at h; omega
    rw [hm]
    simp only [enC]
    simp -implicitDefEqProofs (maxSteps := 1000000) (disch := first | omega | rfl) [m87, g0, g1, h1, g2, g3, h3, g4, g5, h5, g6, h6, g7, g8, h8, g9, g10, h10, g11, g12, h12, c13, box, KS, getS, getO, gS, zipN, dropW, takeW, wds, stvs, sea, seaL, refs, refsL, refsEls, refsO, isPureEls, isPures, isPure, noExt, noExts, noExtEls, cellsL, ren, renL, renEls, keepO, keepS, keysO, refsS, refsOB, cntN, headC, setS, boxO, row, putW, putB, putB1, eNl, newOs, frz, renO, noExtO, zps, zp, two32, w64, -getElem?_pos]
  have g13 : e9 ≤ 12 := by omega
  clear c13
  have hm : mayE ⟨e1, e2, e3, e4, e5, e6, e7, e8, e9⟩ = true := by
    simp only [mayE, inB, Bool.and_eq_true, decide_eq_true_eq]; omega
  rw [hm]
  simp only [enC]
  simp -implicitDefEqProofs (maxSteps := 1000000) (disch := first | omega | rfl) [m87, g0, g1, h1, g2, g3, h3, g4, g5, h5, g6, h6, g7, g8, h8, g9, g10, h10, g11, g12, h12, g13, box, KS, getS, getO, gS, zipN, dropW, takeW, wds, stvs, sea, seaL, refs, refsL, refsEls, refsO, isPureEls, isPures, isPure, noExt, noExts, noExtEls, cellsL, ren, renL, renEls, keepO, keepS, keysO, refsS, refsOB, cntN, headC, setS, boxO, row, putW, putB, putB1, eNl, newOs, frz, renO, noExtO, zps, zp, two32, w64, -getElem?_pos]
set_option maxHeartbeats 8000000 in
theorem V68 (N d : Nat) (e : En) (h : okE e) : sem tab (N + 100) (d + 4) 68 [.agg (enC e)] [] = cond (mayE e) (some (.tup [.sl 0 0 0 30, .b true], [row (byL (encB e)) 1 true])) (some (.tup [.sl 0 0 0 0, .b false], [row [] 1 true])) := by
  rw [sem_succ tab (N + 100) (d + 3) 68 m68 rfl]
  have h87 := V87 (N + 100) (d + 2) e
  cases hm : mayE e
  · rw [hm] at h87
    simp only [enC] at h87 ⊢
    simp -implicitDefEqProofs (maxSteps := 1000000) (disch := first | omega | rfl) [m68, h87, box, KS, getS, getO, gS, zipN, dropW, takeW, wds, stvs, sea, seaL, refs, refsL, refsEls, refsO, isPureEls, isPures, isPure, noExt, noExts, noExtEls, cellsL, ren, renL, renEls, keepO, keepS, keysO, refsS, refsOB, cntN, headC, setS, boxO, row, putW, putB, putB1, eNl, newOs, frz, renO, noExtO, zps, zp, two32, w64, -getElem?_pos]
  · rw [hm] at h87
    have h49 := U90c N d (nuE e) (by simp [nuE]) (okNu_nuE e h hm)
    rw [fitAll_nuE e hm, cond_true, catB_nuE, encB_len] at h49
    have hb := hm
    simp only [mayE, inB, Bool.and_eq_true, decide_eq_true_eq] at hb
    have w : ∀ n : Int, 0 ≤ n → n ≤ 1073741824 → IntKind.u64.wrap n = n := fun n h0 h1 => by rw [IntKind.wrap_u64]; omega
    have w1 := w e.kind (by omega) (by omega)
    have w2 := w e.tick (by omega) (by omega)
    have w3 := w e.epoch (by omega) (by omega)
    have w4 := w e.user (by omega) (by omega)
    have w7 := w e.cmd (by omega) (by omega)
    have w8 := w e.arg (by omega) (by omega)
    have w9 := w e.code (by omega) (by omega)
    have be := byL_len (encB e)
    rw [encB_len] at be
    have te : List.take 30 (byL (encB e)) = byL (encB e) := List.take_of_length_le (by omega)
    simp only [nuL, nuE, List.map_cons, List.map_nil, show ((1 : Nat) : Int) = 1 from rfl, show ((2 : Nat) : Int) = 2 from rfl, show ((4 : Nat) : Int) = 4 from rfl, show ((8 : Nat) : Int) = 8 from rfl] at h49
    simp only [enC] at h87 ⊢
    generalize byL (encB e) = b at *
    simp only [row] at h49
    simp -implicitDefEqProofs (maxSteps := 1000000) (disch := first | omega | rfl) [m68, h87, h49, be, te, w1, w2, w3, w4, w7, w8, w9, box, KS, getS, getO, gS, zipN, dropW, takeW, wds, stvs, sea, seaL, refs, refsL, refsEls, refsO, isPureEls, isPures, isPure, noExt, noExts, noExtEls, cellsL, ren, renL, renEls, keepO, keepS, keysO, refsS, refsOB, cntN, headC, setS, boxO, row, putW, putB, putB1, eNl, newOs, frz, renO, noExtO, zps, zp, two32, w64, -getElem?_pos]
def sl42y (a b : List (List PV)) (i : Nat) : SL := [(0, .l false a), (1, .l false b), (5, .i .i64 i)]
set_option maxHeartbeats 4000000 in
theorem stepv42 (N d : Nat) (g : SL → OB → Option R) (a b : List (List PV)) (i : Nat) (e f : En) (hx : a[i]? = some (enC e)) (hy : b[i]? = some (enC f)) (hi : i < a.length) (hn : a.length < 1000000) :
    m42b0 (sem tab N d) N [] g (sl42y a b i) [] = cond (eqE e f) (g (sl42y a b (i + 1)) []) (some (.b false, [])) := by
  have w2 := w64n (i := i) (by omega)
  have ci : (i : Int) < a.length := by omega
  have he := k_est true e f
  generalize eqE e f = q at *
  obtain ⟨e1, e2, e3, e4, e5, e6, e7, e8, e9⟩ := e
  obtain ⟨f1, f2, f3, f4, f5, f6, f7, f8, f9⟩ := f
  simp only [enC] at he hx hy
  cases q <;> simp -implicitDefEqProofs (maxSteps := 1000000) (disch := first | omega | rfl) [m42b0, sl42y, hx, hy, w2, ci, he, KS, getS, getO, gS, zipN, dropW, takeW, wds, stvs, sea, seaL, refs, refsL, refsEls, refsO, isPureEls, isPures, isPure, noExt, noExts, noExtEls, cellsL, ren, renL, renEls, keepO, keepS, keysO, refsS, refsOB, cntN, headC, setS, boxO, row, putW, putB, putB1, eNl, newOs, frz, renO, noExtO, zps, zp, two32, w64, -getElem?_pos]
set_option maxHeartbeats 4000000 in
theorem endv42 (N d : Nat) (g : SL → OB → Option R) (a b : List (List PV)) : m42b0 (sem tab N d) N [] g (sl42y a b a.length) [] = some (.b true, []) := by
  simp -implicitDefEqProofs (maxSteps := 1000000) (disch := first | omega | rfl) [m42b0, sl42y, KS, getS, getO, gS, zipN, dropW, takeW, wds, stvs, sea, seaL, refs, refsL, refsEls, refsO, isPureEls, isPures, isPure, noExt, noExts, noExtEls, cellsL, ren, renL, renEls, keepO, keepS, keysO, refsS, refsOB, cntN, headC, setS, boxO, row, putW, putB, putB1, eNl, newOs, frz, renO, noExtO, zps, zp, two32, w64, -getElem?_pos]
theorem loopv42 (N d : Nat) (l m : List En) (he : l.length = m.length) (hl : l.length < 1000000) : ∀ (k i e : Nat), i + k = l.length →
    loopC (m42b0 (sem tab N d) N []) (e + 1 + k) (sl42y (enL l) (enL m) i) [] = some (.b (sameL (l.drop i) (m.drop i)), []) := by
  intro k
  induction k with
  | zero =>
    intro i e h
    have : i = l.length := by omega
    subst this
    have en := endv42 N d (loopC (m42b0 (sem tab N d) N []) e) (enL l) (enL m)
    rw [enL_len] at en
    rw [Nat.add_zero, k_loop, en, List.drop_length, he, List.drop_length]; rfl
  | succ k ih =>
    intro i e h
    have hi : i < l.length := by omega
    have hi' : i < m.length := by omega
    rw [← Nat.add_assoc, k_loop, stepv42 N d _ (enL l) (enL m) i _ _ (enL_get l i hi) (enL_get m i hi') (by rw [enL_len]; exact hi) (by rw [enL_len]; exact hl), List.drop_eq_getElem_cons hi, List.drop_eq_getElem_cons hi', sameL]
    cases ho : eqE l[i] m[i]
    · rfl
    · rw [cond_true, ih (i + 1) e (by omega), Bool.true_and]
theorem V42 (N d : Nat) (l m : List En) (hl : l.length < 1000) : sem tab (N + 1000) (d + 1) 42 [.l false (enL l), .l false (enL m)] [] = some (.b (sameL l m), []) := by
  rw [sem_succ tab (N + 1000) d 42 m42 rfl]
  have hx := enL_len l
  have hy := enL_len m
  by_cases he : l.length = m.length
  · have h := loopv42 (N + 1000) d l m he (by omega) l.length 0 (N + 999 - l.length) (by omega)
    rw [show N + 999 - l.length + 1 + l.length = N + 1000 by omega, k_loop] at h
    simp only [sl42y, List.drop_zero] at h
    rw [show ((0 : Nat) : Int) = 0 from rfl] at h
    generalize sameL l m = q at *
    rw [← hx, ← hy] at he
    generalize enL l = a at *
    generalize enL m = b at *
    have e1 : (((a.length : Nat) : Int) != ((b.length : Nat) : Int)) = false := by simp [he]
    simp -implicitDefEqProofs (maxSteps := 1000000) (disch := first | omega | rfl) [m42, h, e1, KS, getS, getO, gS, zipN, dropW, takeW, wds, stvs, sea, seaL, refs, refsL, refsEls, refsO, isPureEls, isPures, isPure, noExt, noExts, noExtEls, cellsL, ren, renL, renEls, keepO, keepS, keysO, refsS, refsOB, cntN, headC, setS, boxO, row, putW, putB, putB1, eNl, newOs, frz, renO, noExtO, zps, zp, two32, w64, -getElem?_pos]
  · rw [sameL_len l m he]
    rw [← hx, ← hy] at he
    generalize enL l = a at *
    generalize enL m = b at *
    have e1 : (((a.length : Nat) : Int) != ((b.length : Nat) : Int)) = true := by simp; omega
    simp -implicitDefEqProofs (maxSteps := 1000000) (disch := first | omega | rfl) [m42, e1, KS, getS, getO, gS, zipN, dropW, takeW, wds, stvs, sea, seaL, refs, refsL, refsEls, refsO, isPureEls, isPures, isPure, noExt, noExts, noExtEls, cellsL, ren, renL, renEls, keepO, keepS, keysO, refsS, refsOB, cntN, headC, setS, boxO, row, putW, putB, putB1, eNl, newOs, frz, renO, noExtO, zps, zp, two32, w64, -getElem?_pos]
end
section
def sl97 (b : List (List PV)) (at' k : Nat) (acc : Int) (i : Nat) : SL := [(0, .l false b), (1, .i .i64 at'), (2, .i .i64 k), (8, .i .u64 acc), (9, .i .i64 i)]
set_option maxHeartbeats 4000000 in
theorem stepv97 (Φ : Sem') (N : Nat) (g : SL → OB → Option R) (b : List (List PV)) (at' k i : Nat) (acc c : Int) (hx : b[i]? = some [.i .u8 c]) (hi : i < at' + k) (hn : at' + k < 1000000) (ha : 0 ≤ acc ∧ acc < 2 ^ 56) (hc : 0 ≤ c ∧ c ≤ 255) :
    m97b0 Φ N [] g (sl97 b at' k acc i) [] = g (sl97 b at' k (acc * 256 + c) (i + 1)) [] := by
  have w1 : IntKind.i64.wrap ((at' : Int) + k) = (at' : Int) + k := w64 (by omega) (by omega)
  have ci : (i : Int) < (at' : Int) + k := by omega
  have w2 := w64n (i := i) (by omega)
  have w3 : IntKind.u64.wrap (256 * acc) = 256 * acc := by rw [IntKind.wrap_u64]; omega
  have w4 : IntKind.u64.wrap c = c := by rw [IntKind.wrap_u64]; omega
  have w5 : IntKind.u64.wrap (256 * acc + c) = acc * 256 + c := by rw [IntKind.wrap_u64]; omega
  simp -implicitDefEqProofs (maxSteps := 1000000) (disch := first | omega | rfl) [m97b0, sl97, hx, w1, ci, w2, w3, w4, w5, KS, getS, getO, gS, zipN, dropW, takeW, wds, stvs, sea, seaL, refs, refsL, refsEls, refsO, isPureEls, isPures, isPure, noExt, noExts, noExtEls, cellsL, ren, renL, renEls, keepO, keepS, keysO, refsS, refsOB, cntN, headC, setS, boxO, row, putW, putB, putB1, eNl, newOs, frz, renO, noExtO, zps, zp, two32, w64, -getElem?_pos]
set_option maxHeartbeats 4000000 in
theorem endv97 (Φ : Sem') (N : Nat) (g : SL → OB → Option R) (b : List (List PV)) (at' k : Nat) (acc : Int) (hn : at' + k < 1000000) :
    m97b0 Φ N [] g (sl97 b at' k acc (at' + k)) [] = some (.tup [.i .u64 acc, .i .i64 ((at' + k : Nat) : Int)], []) := by
  have w1 : IntKind.i64.wrap ((at' : Int) + k) = (at' : Int) + k := w64 (by omega) (by omega)
  simp -implicitDefEqProofs (maxSteps := 1000000) (disch := first | omega | rfl) [m97b0, sl97, w1, KS, getS, getO, gS, zipN, dropW, takeW, wds, stvs, sea, seaL, refs, refsL, refsEls, refsO, isPureEls, isPures, isPure, noExt, noExts, noExtEls, cellsL, ren, renL, renEls, keepO, keepS, keysO, refsS, refsOB, cntN, headC, setS, boxO, row, putW, putB, putB1, eNl, newOs, frz, renO, noExtO, zps, zp, two32, w64, -getElem?_pos]
theorem loopv97 (Φ : Sem') (N : Nat) (bs : List Int) (at' k : Nat) (hk : k ≤ 8) (hb : bs.length < 1000000) (hr : ∀ x ∈ bs, 0 ≤ x ∧ x ≤ 255) (hf : at' + k ≤ bs.length) : ∀ (j i e : Nat), i + j = k →
    loopC (m97b0 Φ N []) (e + 1 + j) (sl97 (byL bs) at' k (val (((bs.drop at').take k).take i)) (at' + i)) [] = some (.tup [.i .u64 (val ((bs.drop at').take k)), .i .i64 ((at' + k : Nat) : Int)], []) := by
  have hyl : ((bs.drop at').take k).length = k := by rw [List.length_take, List.length_drop]; omega
  have hyr : ∀ x ∈ (bs.drop at').take k, 0 ≤ x ∧ x ≤ 255 := fun x hx => hr x (List.mem_of_mem_drop (List.mem_of_mem_take hx))
  intro j
  induction j with
  | zero =>
    intro i e h
    have : i = k := by omega
    subst this
    rw [Nat.add_zero, k_loop, endv97 Φ N _ (byL bs) at' i _ (by omega), List.take_of_length_le (by omega)]
  | succ j ih =>
    intro i e h
    have hi : i < ((bs.drop at').take k).length := by omega
    have hv := val_range (((bs.drop at').take k).take i) (fun x hx => hyr x (List.mem_of_mem_take hx))
    have hle : (((bs.drop at').take k).take i).length ≤ 7 := by rw [List.length_take]; omega
    have hp : (256 : Int) ^ (((bs.drop at').take k).take i).length ≤ 2 ^ 56 := (by decide : ∀ m ≤ 7, (256 : Int) ^ m ≤ 2 ^ 56) _ hle
    have gx : (byL bs)[at' + i]? = some [.i .u8 ((bs.drop at').take k)[i]] := by
      simp only [byL, List.getElem?_map]
      rw [List.getElem?_eq_getElem (by omega)]
      simp
    rw [← Nat.add_assoc, k_loop, stepv97 Φ N _ (byL bs) at' k (at' + i) _ _ gx (by omega) (by omega) ⟨hv.1, by omega⟩ (hyr _ (List.getElem_mem hi))]
    rw [← val_app, List.take_append_getElem hi]
    exact ih (i + 1) e (by omega)
set_option maxHeartbeats 4000000 in
theorem V97 (N d : Nat) (bs : List Int) (at' k : Nat) (hk : 1 ≤ k ∧ k ≤ 8) (hb : bs.length < 1000000) (hr : ∀ x ∈ bs, 0 ≤ x ∧ x ≤ 255) (hf : at' + k ≤ bs.length) :
    sem tab (N + 100) (d + 1) 97 [.l false (byL bs), .i .i64 at', .i .i64 k] [] = some (.tup [.i .u64 (val ((bs.drop at').take k)), .i .i64 ((at' + k : Nat) : Int)], []) := by
  rw [sem_succ tab (N + 100) d 97 m97 rfl]
  have h := loopv97 (sem tab (N + 100) d) (N + 100) bs at' k (by omega) hb hr hf k 0 (N + 99 - k) (by omega)
  rw [show N + 99 - k + 1 + k = N + 100 by omega, k_loop, List.take_zero, show val [] = 0 from rfl] at h
  have hbl := byL_len bs
  simp only [sl97, Nat.add_zero] at h
  have c0 : ¬ ((k : Int) < 1) := by omega
  have c0' : ¬ ((k : Int) > 8) := by omega
  have c0'' : ¬ (8 < (k : Int)) := by omega
  have c1 : ¬ ((at' : Int) < 0) := by omega
  have c2 : ¬ ((at' : Int) > (byL bs).length) := by omega
  have c2' : ¬ (((byL bs).length : Int) < at') := by omega
  have c3 : ¬ (((byL bs).length : Int) - at' < k) := by omega
  have w1 : IntKind.i64.wrap (((byL bs).length : Int) - at') = ((byL bs).length : Int) - at' := w64 (by omega) (by omega)
  generalize val ((bs.drop at').take k) = V at *
  generalize byL bs = b at *
  generalize ((at' + k : Nat) : Int) = z at *
  simp -implicitDefEqProofs (maxSteps := 1000000) (disch := first | omega | rfl) [m97, c0, c0', c0'', c1, c2, c2', c3, w1, h, KS, getS, getO, gS, zipN, dropW, takeW, wds, stvs, sea, seaL, refs, refsL, refsEls, refsO, isPureEls, isPures, isPure, noExt, noExts, noExtEls, cellsL, ren, renL, renEls, keepO, keepS, keysO, refsS, refsOB, cntN, headC, setS, boxO, row, putW, putB, putB1, eNl, newOs, frz, renO, noExtO, zps, zp, two32, w64, -getElem?_pos]
def sl91 (b : List (List PV)) (ss : List (List PV)) (m at' i : Nat) : SL := [(0, .l false b), (1, .l false ss), (8, .sl 135 0 0 m), (9, .i .i64 at'), (10, .i .i64 i)]
set_option maxHeartbeats 4000000 in
theorem stepv91 (N d : Nat) (g : SL → OB → Option R) (bs : List Int) (ss t : List (List PV)) (i at' k : Nat) (hx : ss[i]? = some [.i .i64 k]) (hi : i < ss.length) (hn : ss.length ≤ 40) (hk : 1 ≤ k ∧ k ≤ 8) (hb : bs.length < 1000000) (hr : ∀ x ∈ bs, 0 ≤ x ∧ x ≤ 255) (hf : at' + k ≤ bs.length) (ht : t.length ≤ 100000) :
    m91b0 (sem tab (N + 100) (d + 1)) (N + 100) [] g (sl91 (byL bs) ss t.length at' i) [(135, row t 1 true)] = g (sl91 (byL bs) ss (t ++ [[PV.i .u64 (val ((bs.drop at').take k))]]).length (at' + k) (i + 1)) [(135, row (t ++ [[.i .u64 (val ((bs.drop at').take k))]]) 1 true)] := by
  have h97 := V97 N d bs at' k hk hb hr hf
  have w2 := w64n (i := i) (by omega)
  have ci : (i : Int) < ss.length := by omega
  generalize val ((bs.drop at').take k) = V at *
  generalize byL bs = b at *
  have t2 : List.take t.length t = t := List.take_length
  have e0 : t.length + 1 ≤ 4294967296 := by omega
  have e1 : ¬ (t.length + 1 ≤ t.length) := by omega
  have e3 : (t ++ [[PV.i .u64 V]]).length = t.length + 1 := by simp
  have e4 : List.take (t.length + 1) (t ++ [[PV.i .u64 V]]) = t ++ [[PV.i .u64 V]] := List.take_of_length_le (by omega)
  generalize hz : ((at' + k : Nat) : Int) = z at *
  simp -implicitDefEqProofs (maxSteps := 1000000) (disch := first | omega | rfl) [m91b0, sl91, hx, h97, w2, ci, t2, e0, e1, e3, e4, hz, KS, getS, getO, gS, zipN, dropW, takeW, wds, stvs, sea, seaL, refs, refsL, refsEls, refsO, isPureEls, isPures, isPure, noExt, noExts, noExtEls, cellsL, ren, renL, renEls, keepO, keepS, keysO, refsS, refsOB, cntN, headC, setS, boxO, row, putW, putB, putB1, eNl, newOs, frz, renO, noExtO, zps, zp, two32, w64, -getElem?_pos]
set_option maxHeartbeats 4000000 in
theorem endv91 (Φ : Sem') (N : Nat) (g : SL → OB → Option R) (b : List (List PV)) (ss t : List (List PV)) (at' : Nat) :
    m91b0 Φ N [] g (sl91 b ss t.length at' ss.length) [(135, row t 1 true)] = some (.tup [.sl 0 0 0 t.length, .b true], [row t 1 true]) := by
  have t2 : List.take t.length t = t := List.take_length
  simp -implicitDefEqProofs (maxSteps := 1000000) (disch := first | omega | rfl) [m91b0, sl91, t2, KS, getS, getO, gS, zipN, dropW, takeW, wds, stvs, sea, seaL, refs, refsL, refsEls, refsO, isPureEls, isPures, isPure, noExt, noExts, noExtEls, cellsL, ren, renL, renEls, keepO, keepS, keysO, refsS, refsOB, cntN, headC, setS, boxO, row, putW, putB, putB1, eNl, newOs, frz, renO, noExtO, zps, zp, two32, w64, -getElem?_pos]
theorem kL_len (ks : List Nat) : (kL ks).length = ks.length := by simp [kL]
theorem kL_get (ks : List Nat) (i : Nat) (h : i < ks.length) : (kL ks)[i]? = some [.i .i64 (ks[i] : Nat)] := by simp [kL, h]
theorem loopv91 (N d : Nat) (bs : List Int) (ks : List Nat) (hks : ∀ k ∈ ks, 1 ≤ k ∧ k ≤ 8) (hn : ks.length ≤ 40) (hb : bs.length < 1000000) (hr : ∀ x ∈ bs, 0 ≤ x ∧ x ≤ 255) : ∀ (j i e at' : Nat) (t : List (List PV)), i + j = ks.length → at' + sumL (ks.drop i) = bs.length → t.length = i →
    loopC (m91b0 (sem tab (N + 100) (d + 1)) (N + 100) []) (e + 1 + j) (sl91 (byL bs) (kL ks) t.length at' i) [(135, row t 1 true)] = some (.tup [.sl 0 0 0 (t ++ cuts bs at' (ks.drop i)).length, .b true], [row (t ++ cuts bs at' (ks.drop i)) 1 true]) := by
  intro j
  induction j with
  | zero =>
    intro i e at' t h hs ht
    have : i = (kL ks).length := by rw [kL_len]; omega
    subst this
    rw [Nat.add_zero, k_loop, endv91, kL_len, List.drop_length]
    simp [cuts]
  | succ j ih =>
    intro i e at' t h hs ht
    have hi : i < ks.length := by omega
    have q1 := List.drop_eq_getElem_cons hi
    rw [q1] at hs ⊢
    simp only [sumL] at hs
    have hk := hks _ (List.getElem_mem hi)
    rw [← Nat.add_assoc, k_loop, stepv91 N d _ bs (kL ks) t i at' ks[i] (kL_get ks i hi) (by rw [kL_len]; exact hi) (by rw [kL_len]; exact hn) hk hb hr (by omega) (by omega), ih (i + 1) e _ _ (by omega) (by omega) (by simp [ht])]
    simp only [cuts, List.append_assoc, List.cons_append, List.nil_append]
def sl91b (b : List (List PV)) (ss : List (List PV)) (s i : Nat) : SL := [(0, .l false b), (1, .l false ss), (6, .i .i64 s), (7, .i .i64 i)]
set_option maxHeartbeats 4000000 in
theorem stepv91b (Φ : Sem') (N : Nat) (g : SL → OB → Option R) (b ss : List (List PV)) (s i k : Nat) (hx : ss[i]? = some [.i .i64 k]) (hi : i < ss.length) (hn : ss.length ≤ 40) (hk : 1 ≤ k ∧ k ≤ 8) (hs : s < 100000) :
    m91b1 Φ N [] g (sl91b b ss s i) [] = g (sl91b b ss (s + k) (i + 1)) [] := by
  have w2 := w64n (i := i) (by omega)
  have ci : (i : Int) < ss.length := by omega
  have c1 : ¬ ((k : Int) < 1) := by omega
  have c2 : ¬ ((k : Int) > 8) := by omega
  have c2' : ¬ (8 < (k : Int)) := by omega
  have c3 : ¬ ((i : Int) ≥ 40) := by omega
  have c3' : ¬ (40 ≤ (i : Int)) := by omega
  have w3 : IntKind.i64.wrap ((s : Int) + k) = ((s + k : Nat) : Int) := by rw [w64 (by omega) (by omega)]; omega
  generalize hz : ((s + k : Nat) : Int) = z at *
  simp -implicitDefEqProofs (maxSteps := 1000000) (disch := first | omega | rfl) [m91b1, sl91b, hx, w2, ci, c1, c2, c2', c3, c3', w3, hz, KS, getS, getO, gS, zipN, dropW, takeW, wds, stvs, sea, seaL, refs, refsL, refsEls, refsO, isPureEls, isPures, isPure, noExt, noExts, noExtEls, cellsL, ren, renL, renEls, keepO, keepS, keysO, refsS, refsOB, cntN, headC, setS, boxO, row, putW, putB, putB1, eNl, newOs, frz, renO, noExtO, zps, zp, two32, w64, -getElem?_pos]
theorem loopv91b (Φ : Sem') (N : Nat) (b : List (List PV)) (ks : List Nat) (hks : ∀ k ∈ ks, 1 ≤ k ∧ k ≤ 8) (hn : ks.length ≤ 40) : ∀ (j i e s : Nat), i + j = ks.length → s ≤ 8 * i →
    loopC (m91b1 Φ N []) (e + 1 + j) (sl91b b (kL ks) s i) [] = m91b1 Φ N [] (loopC (m91b1 Φ N []) e) (sl91b b (kL ks) (s + sumL (ks.drop i)) ks.length) [] := by
  intro j
  induction j with
  | zero =>
    intro i e s h hs
    have : i = ks.length := by omega
    subst this
    rw [Nat.add_zero, k_loop, List.drop_length]
    rfl
  | succ j ih =>
    intro i e s h hs
    have hi : i < ks.length := by omega
    have q1 := List.drop_eq_getElem_cons hi
    have hk := hks _ (List.getElem_mem hi)
    rw [← Nat.add_assoc, k_loop, stepv91b Φ N _ b (kL ks) s i ks[i] (kL_get ks i hi) (by rw [kL_len]; exact hi) (by rw [kL_len]; exact hn) hk (by omega), ih (i + 1) e _ (by omega) (by omega), q1, sumL, Nat.add_assoc]
set_option maxHeartbeats 4000000 in
theorem V91 (N d : Nat) (bs : List Int) (ks : List Nat) (hks : ∀ k ∈ ks, 1 ≤ k ∧ k ≤ 8) (hn : ks.length ≤ 40) (hb : bs.length < 1000000) (hr : ∀ x ∈ bs, 0 ≤ x ∧ x ≤ 255) (hs : sumL ks = bs.length) :
    sem tab (N + 100) (d + 2) 91 [.l false (byL bs), .l false (kL ks)] [] = some (.tup [.sl 0 0 0 (cuts bs 0 ks).length, .b true], [row (cuts bs 0 ks) 1 true]) := by
  rw [sem_succ tab (N + 100) (d + 1) 91 m91 rfl]
  have h := loopv91 N d bs ks hks hn hb hr ks.length 0 (N + 99 - ks.length) 0 [] (by omega) (by simpa using hs) rfl
  rw [show N + 99 - ks.length + 1 + ks.length = N + 100 by omega, List.drop_zero, List.nil_append] at h
  have h1 := loopv91b (sem tab (N + 100) (d + 1)) (N + 100) (byL bs) ks hks hn ks.length 0 (N + 99 - ks.length) 0 (by omega) (by omega)
  rw [show N + 99 - ks.length + 1 + ks.length = N + 100 by omega, List.drop_zero, Nat.zero_add, hs, k_loop] at h1
  have bl := byL_len bs
  have kl := kL_len ks
  simp only [sl91, List.length_nil] at h
  simp only [sl91b] at h1
  rw [← bl, ← kl] at h1
  generalize cuts bs 0 ks = c at *
  generalize kL ks = m at *
  generalize byL bs = b at *
  rw [show ((0 : Nat) : Int) = 0 from rfl] at h h1
  simp only [row] at h ⊢
  rw [k_loop] at h
  have step : ∀ g, m91b1 (sem tab (N + 100) (d + 1)) (N + 100) [] g [(0, .l false b), (1, .l false m), (6, .i .i64 b.length), (7, .i .i64 m.length)] [] = some (.tup [.sl 0 0 0 c.length, .b true], [{ els := c, w := 1, pu := true, g := true, cap := none, ver := 0, fro := false }]) := by
    clear h1
    intro g
    simp -implicitDefEqProofs (maxSteps := 1000000) (disch := first | omega | rfl) [m91b1, h, KS, getS, getO, gS, zipN, dropW, takeW, wds, stvs, sea, seaL, refs, refsL, refsEls, refsO, isPureEls, isPures, isPure, noExt, noExts, noExtEls, cellsL, ren, renL, renEls, keepO, keepS, keysO, refsS, refsOB, cntN, headC, setS, boxO, row, putW, putB, putB1, eNl, newOs, frz, renO, noExtO, zps, zp, two32, w64, -getElem?_pos]
  rw [step] at h1
  simp -implicitDefEqProofs (maxSteps := 1000000) (disch := first | omega | rfl) [m91, h1, KS, getS, getO, gS, zipN, dropW, takeW, wds, stvs, sea, seaL, refs, refsL, refsEls, refsO, isPureEls, isPures, isPure, noExt, noExts, noExtEls, cellsL, ren, renL, renEls, keepO, keepS, keysO, refsS, refsOB, cntN, headC, setS, boxO, row, putW, putB, putB1, eNl, newOs, frz, renO, noExtO, zps, zp, two32, w64, -getElem?_pos]
end
section
theorem okE_get (bs : List Int) (hr : byR bs) : okE (getE bs) := by
  have v : ∀ k, 0 ≤ vAt bs k 8 ∧ vAt bs k 8 < 18446744073709551616 := fun k => by
    have hv := val_range ((bs.drop k).take 8) (byR_take _ (byR_drop _ hr))
    have hl : ((bs.drop k).take 8).length ≤ 8 := by rw [List.length_take]; omega
    have hp : (256 : Int) ^ ((bs.drop k).take 8).length ≤ 18446744073709551616 := (by decide : ∀ m ≤ 8, (256 : Int) ^ m ≤ 18446744073709551616) _ hl
    exact ⟨hv.1, by unfold vAt; omega⟩
  exact ⟨(v 10).1, (v 10).2, (v 18).1, (v 18).2⟩
set_option maxHeartbeats 16000000 in
theorem V70 (N d : Nat) (bs : List Int) (hl : bs.length = 30) (hr : ∀ x ∈ bs, 0 ≤ x ∧ x ≤ 255) :
    sem tab (N + 100) (d + 5) 70 [.l false (byL bs)] [] = some (.tup [.agg (enC (cond (mayE (getE bs)) (getE bs) zeE)), .b (mayE (getE bs))], []) := by
  rw [sem_succ tab (N + 100) (d + 4) 70 m70 rfl]
  have h91 := V91 N (d + 2) bs szs (by decide) (by decide) (by omega) hr (by rw [hl]; rfl)
  have h68 := V68 N d (getE bs) (okE_get bs hr)
  have en := enc_get bs hl hr
  rw [en] at h68
  rw [cuts_szs] at h91
  have hk : kL szs = [[.i .i64 1], [.i .i64 4], [.i .i64 4], [.i .i64 1], [.i .i64 8], [.i .i64 8], [.i .i64 1], [.i .i64 2], [.i .i64 1]] := rfl
  rw [hk] at h91
  have cb := unB_by bs
  have bl := byL_len bs
  rw [hl] at bl
  have te : List.take 30 (byL bs) = byL bs := List.take_of_length_le (by omega)
  have r0 := vAt_range bs hr 0 1 (by decide)
  have r1 := vAt_range bs hr 1 4 (by decide)
  have r2 := vAt_range bs hr 5 4 (by decide)
  have r3 := vAt_range bs hr 9 1 (by decide)
  have r6 := vAt_range bs hr 26 1 (by decide)
  have r7 := vAt_range bs hr 27 2 (by decide)
  have r8 := vAt_range bs hr 29 1 (by decide)
  simp only [getE, enC] at h68 ⊢
  generalize vAt bs 0 1 = u0 at *
  generalize vAt bs 1 4 = u1 at *
  generalize vAt bs 5 4 = u2 at *
  generalize vAt bs 9 1 = u3 at *
  generalize vAt bs 10 8 = u4 at *
  generalize vAt bs 18 8 = u5 at *
  generalize vAt bs 26 1 = u6 at *
  generalize vAt bs 27 2 = u7 at *
  generalize vAt bs 29 1 = u8 at *
  have w0 : IntKind.i64.wrap u0 = u0 := w64 (by omega) (by omega)
  have w1 : IntKind.i64.wrap u1 = u1 := w64 (by omega) (by omega)
  have w2 : IntKind.i64.wrap u2 = u2 := w64 (by omega) (by omega)
  have w3 : IntKind.i64.wrap u3 = u3 := w64 (by omega) (by omega)
  have w6 : IntKind.i64.wrap u6 = u6 := w64 (by omega) (by omega)
  have w7 : IntKind.i64.wrap u7 = u7 := w64 (by omega) (by omega)
  have w8 : IntKind.i64.wrap u8 = u8 := w64 (by omega) (by omega)
  generalize chars bs = s at *
  generalize byL bs = b at *
  simp only [row] at h68 h91
  generalize mayE ⟨u0, u1, u2, u3, u4, u5, u6, u7, u8⟩ = m at *
  cases m <;> simp only [cond_true, cond_false] at h68 <;> simp -implicitDefEqProofs (maxSteps := 1000000) (disch := first | omega | rfl) [m70, zeE, h91, h68, cb, bl, te, w0, w1, w2, w3, w6, w7, w8, box, KS, getS, getO, gS, zipN, dropW, takeW, wds, stvs, sea, seaL, refs, refsL, refsEls, refsO, isPureEls, isPures, isPure, noExt, noExts, noExtEls, cellsL, ren, renL, renEls, keepO, keepS, keysO, refsS, refsOB, cntN, headC, setS, boxO, row, putW, putB, putB1, eNl, newOs, frz, renO, noExtO, zps, zp, two32, w64, -getElem?_pos]
theorem L27' (M d : Nat) (ys : List Int) (h : ys.length ≤ 57600) (hb : ∀ n ∈ ys, 0 ≤ n ∧ n ≤ 255) : sem tab (M + 1000) (d + 5) 69 [.l false (byL ys)] [] = some (.agg [.blob 32 (uL (sumI' ys))], []) := L27 M d ys h hb
set_option maxHeartbeats 16000000 in
theorem V39 (M d : Nat) (h : List Int) (e : En) (hl : h.length = 32) (hR : byR h) (ho : okE e) : sem tab (M + 1000) (d + 6) 39 [.agg [.blob 32 (uL h)], .agg (enC e)] [] = some (.tup [.agg [.blob 32 (uL (linkC h e))], .b (mayE e)], []) := by
  rw [sem_succ tab (M + 1000) (d + 5) 39 m39 rfl]
  have h68 := V68 (M + 900) (d + 1) e ho
  rw [show M + 900 + 100 = M + 1000 by omega, show d + 1 + 4 = d + 5 by omega] at h68
  have h69 := L27' M d ([1] ++ h ++ encB e) (by simp [hl, encB_len]) (byR_app (byR_app (fun x hx => by simp at hx; omega) hR) (encB_R e))
  rw [← linkH] at h69
  have hb1 : byL ([1] ++ h ++ encB e) = [PV.i .u8 1] :: ((uL h).map (fun v => [v]) ++ byL (encB e)) := by
    rw [byL_app', byL_app', map_u]; rfl
  rw [hb1] at h69
  have be := byL_len (encB e)
  rw [encB_len] at be
  have te : List.take 30 (byL (encB e)) = byL (encB e) := List.take_of_length_le (by omega)
  have ul := uL_len h
  rw [hl] at ul
  have tu := take_u h hl
  have tu0 : (uL h).take 32 = uL h := by rw [← List.drop_zero (l := uL h)]; exact tu
  have mul : ((uL h).map (fun v => [v])).length = 32 := by rw [List.length_map, uL_len, hl]
  have muw : allW 1 ((uL h).map (fun v => [v])) = true := by rw [map_u]; exact allW_by _
  have muf : flatEls ((uL h).map (fun v => [v])) = true := by rw [map_u]; exact flat_by _
  have mt : List.take 32 ((uL h).map (fun v => [v])) = (uL h).map (fun v => [v]) := List.take_of_length_le (by omega)
  have mt2 : List.take 62 ((uL h).map (fun v => [v]) ++ byL (encB e)) = (uL h).map (fun v => [v]) ++ byL (encB e) := List.take_of_length_le (by rw [List.length_append]; omega)
  have we := allW_by (encB e)
  have fe := flat_by (encB e)
  have hz := hz32
  simp only [linkC]
  clear hb1
  cases hm : mayE e <;> rw [hm] at h68 <;> simp only [cond_true, cond_false, row] at h68 ⊢
  · rw [← hz]
    clear hz h69
    generalize uL h = u at *
    obtain ⟨e1, e2, e3, e4, e5, e6, e7, e8, e9⟩ := e
    simp only [enC] at h68 ⊢
    have hzl : (List.replicate 32 (PV.i IntKind.u8 0)).length = 32 := rfl
    generalize hz' : List.replicate 32 (PV.i .u8 0) = zz at *
    simp -implicitDefEqProofs (maxSteps := 1000000) (disch := first | omega | rfl) [m39, h68, hz', hzl, ul, box, KV, KS, getS, getO, gS, zipN, dropW, takeW, wds, stvs, sea, seaL, refs, refsL, refsEls, refsO, isPureEls, isPures, isPure, noExt, noExts, noExtEls, cellsL, ren, renL, renEls, keepO, keepS, keysO, refsS, refsOB, cntN, headC, setS, boxO, row, putW, putB, putB1, eNl, newOs, frz, renO, noExtO, zps, zp, two32, w64, -getElem?_pos]
  · clear hz
    generalize uL (linkH h e) = q at *
    generalize uL h = u at *
    generalize byL (encB e) = b at *
    obtain ⟨e1, e2, e3, e4, e5, e6, e7, e8, e9⟩ := e
    simp only [enC] at h68 ⊢
    have hzl : (List.replicate 32 (PV.i IntKind.u8 0)).length = 32 := rfl
    generalize hz' : List.replicate 32 (PV.i .u8 0) = zz at *
    simp -implicitDefEqProofs (maxSteps := 1000000) (disch := first | omega | rfl) [m39, h68, h69, be, te, ul, tu, tu0, mul, muw, muf, mt, mt2, we, fe, hz', hzl, k_cont_bs, box, KV, KS, getS, getO, gS, zipN, dropW, takeW, wds, stvs, sea, seaL, refs, refsL, refsEls, refsO, isPureEls, isPures, isPure, noExt, noExts, noExtEls, cellsL, ren, renL, renEls, keepO, keepS, keysO, refsS, refsOB, cntN, headC, setS, boxO, row, putW, putB, putB1, eNl, newOs, frz, renO, noExtO, zps, zp, two32, w64, -getElem?_pos]
set_option maxHeartbeats 4000000 in
theorem V46n (M d : Nat) : sem tab (M + 1000) (d + 6) 46 [.l false []] [] = some (.agg [.blob 32 (uL h0)], []) := by
  rw [sem_succ tab (M + 1000) (d + 5) 46 m46 rfl]
  have h69 := L27' M d [0] (by decide) (fun x hx => by simp at hx; omega)
  rw [show sumI' [0] = h0 from rfl, show byL [0] = [[.i .u8 0]] from rfl] at h69
  have ul := uL_len h0
  rw [h0_len] at ul
  generalize uL h0 = u at *
  have hzl : (List.replicate 32 (PV.i IntKind.u8 0)).length = 32 := rfl
  generalize hz' : List.replicate 32 (PV.i .u8 0) = zz at *
  have hend : ∀ g, m46b0 (sem tab (M + 1000) (d + 5)) (M + 1000) [] g [(0, .l false []), (2, .p 80 0 0 0 none), (3, .p 88 0 0 0 none), (4, .i .i64 0)] [(80, { els := [[.blob 32 zz]], w := 32, pu := false, g := true, cap := none, ver := 0, fro := false }), (88, { els := [[.blob 32 u]], w := 32, pu := false, g := true, cap := none, ver := 0, fro := false })] = some (.agg [.blob 32 u], []) := by
    intro g
    simp -implicitDefEqProofs (maxSteps := 1000000) (disch := first | omega | rfl) [m46b0, hzl, ul, box, KV, KS, getS, getO, gS, zipN, dropW, takeW, wds, stvs, sea, seaL, refs, refsL, refsEls, refsO, isPureEls, isPures, isPure, noExt, noExts, noExtEls, cellsL, ren, renL, renEls, keepO, keepS, keysO, refsS, refsOB, cntN, headC, setS, boxO, row, putW, putB, putB1, eNl, newOs, frz, renO, noExtO, zps, zp, two32, w64, -getElem?_pos]
  simp -implicitDefEqProofs (maxSteps := 1000000) (disch := first | omega | rfl) [m46, hend, h69, ul, hz', hzl, box, KV, KS, getS, getO, gS, zipN, dropW, takeW, wds, stvs, sea, seaL, refs, refsL, refsEls, refsO, isPureEls, isPures, isPure, noExt, noExts, noExtEls, cellsL, ren, renL, renEls, keepO, keepS, keysO, refsS, refsOB, cntN, headC, setS, boxO, row, putW, putB, putB1, eNl, newOs, frz, renO, noExtO, zps, zp, two32, w64, -getElem?_pos]
end
section
def sl38p (xs : List (List PV)) (m i : Nat) : SL := [(0, .l false xs), (3, .p 88 0 0 0 none), (5, .sl 111 0 0 m), (6, .p 112 0 0 0 none), (7, .i .i64 i)]
set_option maxHeartbeats 16000000 in
theorem stepv38 (M d : Nat) (g : SL → OB → Option R) (xs : List (List PV)) (z : List PV) (out h : List Int) (i : Nat) (e : En) (hx : xs[i]? = some (enC e)) (hi : i < xs.length) (hn : xs.length < 1000) (ho : okE e) (hl : h.length = 32) (hR : byR h) (hz : z.length = 32) (hou : out.length ≤ 50000) :
    m38b0 (sem tab (M + 1000) (d + 6)) (M + 1000) [] g (sl38p xs out.length i) (ob32p z out (uL h)) = cond (mayE e) (g (sl38p xs (out ++ encB e ++ linkH h e).length (i + 1)) (ob32p z (out ++ encB e ++ linkH h e) (uL (linkH h e)))) (some (.tup [.sl 0 0 0 0, .agg [.blob 32 (uL zero32L)], .b false], [row [] 1 true])) := by
  have h39 := V39 M d h e hl hR ho
  have h68 := V68 (M + 900) (d + 2) e ho
  rw [show M + 900 + 100 = M + 1000 by omega, show d + 2 + 4 = d + 6 by omega] at h68
  have w2 := w64n (i := i) (by omega)
  have ci : (i : Int) < xs.length := by omega
  have lo := byL_len out
  have be := byL_len (encB e)
  rw [encB_len] at be
  have te : List.take 30 (byL (encB e)) = byL (encB e) := List.take_of_length_le (by omega)
  have ul := uL_len h
  rw [hl] at ul
  have ql := uL_len (linkH h e)
  rw [linkH_len] at ql
  have tu := take_u (linkH h e) (linkH_len h e)
  have tu0 : (uL (linkH h e)).take 32 = uL (linkH h e) := by rw [← List.drop_zero (l := uL (linkH h e))]; exact tu
  have all : (out ++ encB e ++ linkH h e).length = out.length + 30 + 32 := by simp [encB_len, linkH_len, Nat.add_assoc]
  have hb : byL (out ++ encB e ++ linkH h e) = byL out ++ (byL (encB e) ++ (uL (linkH h e)).map (fun v => [v])) := by
    rw [byL_app', byL_app', map_u, List.append_assoc]
  have mul : ((uL (linkH h e)).map (fun v => [v])).length = 32 := by rw [List.length_map, uL_len, linkH_len]
  have muw : allW 1 ((uL (linkH h e)).map (fun v => [v])) = true := by rw [map_u]; exact allW_by _
  have muf : flatEls ((uL (linkH h e)).map (fun v => [v])) = true := by rw [map_u]; exact flat_by _
  have mt : List.take 32 ((uL (linkH h e)).map (fun v => [v])) = (uL (linkH h e)).map (fun v => [v]) := List.take_of_length_le (by omega)
  have we := allW_by (encB e)
  have fe := flat_by (encB e)
  have tk0 : List.take out.length (byL out) = byL out := List.take_of_length_le (by omega)
  have le1 : out.length + 30 ≤ 4294967296 := by omega
  have le2 : ¬ out.length + 30 ≤ out.length := by omega
  have le3 : out.length + 30 + 32 ≤ 4294967296 := by omega
  have le4 : ¬ out.length + 30 + 32 ≤ out.length + 30 := by omega
  have tk2 : List.take (out.length + 30) (byL out ++ byL (encB e)) = byL out ++ byL (encB e) := List.take_of_length_le (by rw [List.length_append]; omega)
  simp only [sl38p, ob32p, all, hb]
  clear hb all
  simp only [linkC] at h39
  generalize byL (encB e) = b at *
  generalize byL out = o at *
  generalize uL h = u at *
  have hz0 : List.replicate 32 (PV.i .u8 0) = uL zero32L := by simp [uL, zero32L]
  have hzl : (List.replicate 32 (PV.i IntKind.u8 0)).length = 32 := rfl
  obtain ⟨e1, e2, e3, e4, e5, e6, e7, e8, e9⟩ := e
  simp only [enC] at h39 h68 hx
  cases hm : mayE ⟨e1, e2, e3, e4, e5, e6, e7, e8, e9⟩ <;> rw [hm] at h68 h39 <;> simp only [cond_true, cond_false, row] at h68 h39 ⊢
  · rw [← hz0] at h39 ⊢
    clear hz0
    generalize hz' : List.replicate 32 (PV.i .u8 0) = zz at *
    simp -implicitDefEqProofs (maxSteps := 1000000) (disch := first | omega | rfl) [m38b0, hx, ci, w2, hz', hzl, h68, h39, hz, k_fin3, box, KV, KS, getS, getO, gS, zipN, dropW, takeW, wds, stvs, sea, seaL, refs, refsL, refsEls, refsO, isPureEls, isPures, isPure, noExt, noExts, noExtEls, cellsL, ren, renL, renEls, keepO, keepS, keysO, refsS, refsOB, cntN, headC, setS, boxO, row, putW, putB, putB1, eNl, newOs, frz, renO, noExtO, zps, zp, two32, w64, -getElem?_pos]
  · clear hz0
    generalize uL (linkH h _) = q at *
    generalize hz' : List.replicate 32 (PV.i .u8 0) = zz at *
    simp -implicitDefEqProofs (maxSteps := 1000000) (disch := first | omega | rfl) [m38b0, hx, ci, w2, hz', hzl, h68, h39, hz, be, te, ul, ql, tu, tu0, mul, muw, muf, mt, we, fe, tk0, le1, le2, le3, le4, tk2, lo, k_cont_bs, box, KV, KS, getS, getO, gS, zipN, dropW, takeW, wds, stvs, sea, seaL, refs, refsL, refsEls, refsO, isPureEls, isPures, isPure, noExt, noExts, noExtEls, cellsL, ren, renL, renEls, keepO, keepS, keysO, refsS, refsOB, cntN, headC, setS, boxO, row, putW, putB, putB1, eNl, newOs, frz, renO, noExtO, zps, zp, two32, w64, -getElem?_pos]
set_option maxHeartbeats 8000000 in
theorem endv38 (Φ : Sem') (N : Nat) (g : SL → OB → Option R) (xs : List (List PV)) (z : List PV) (out h : List Int) (hl : h.length = 32) (hz : z.length = 32) :
    m38b0 Φ N [] g (sl38p xs out.length xs.length) (ob32p z out (uL h)) = yesPut out h := by
  have ul := uL_len h
  rw [hl] at ul
  have lo := byL_len out
  have tk0 : List.take out.length (byL out) = byL out := List.take_of_length_le (by omega)
  simp only [sl38p, ob32p, yesPut]
  generalize byL out = o at *
  generalize uL h = u at *
  simp -implicitDefEqProofs (maxSteps := 1000000) (disch := first | omega | rfl) [m38b0, hz, ul, lo, tk0, k_fin3, box, KV, KS, getS, getO, gS, zipN, dropW, takeW, wds, stvs, sea, seaL, refs, refsL, refsEls, refsO, isPureEls, isPures, isPure, noExt, noExts, noExtEls, cellsL, ren, renL, renEls, keepO, keepS, keysO, refsS, refsOB, cntN, headC, setS, boxO, row, putW, putB, putB1, eNl, newOs, frz, renO, noExtO, zps, zp, two32, w64, -getElem?_pos]
theorem loopv38 (M d : Nat) (l : List En) (z : List PV) (hl : l.length ≤ 264) (ho : ∀ e ∈ l, okE e) (hz : z.length = 32) : ∀ (k i e : Nat) (out h : List Int), i + k = l.length → h.length = 32 → byR h → out.length = 62 * i →
    loopC (m38b0 (sem tab (M + 1000) (d + 6)) (M + 1000) []) (e + 1 + k) (sl38p (enL l) out.length i) (ob32p z out (uL h)) = cond ((l.drop i).all mayE) (yesPut (out ++ recL h (l.drop i)) (hdL h (l.drop i))) noPut := by
  intro k
  induction k with
  | zero =>
    intro i e out h hi hh hR hou
    have : i = (enL l).length := by rw [enL_len]; omega
    subst this
    rw [Nat.add_zero, k_loop, endv38 _ _ _ (enL l) z out h hh hz, enL_len, List.drop_length]
    simp [recL, hdL]
  | succ k ih =>
    intro i e out h hi hh hR hou
    have hi' : i < l.length := by omega
    rw [← Nat.add_assoc, k_loop, stepv38 M d _ (enL l) z out h i l[i] (enL_get l i hi') (by rw [enL_len]; exact hi') (by rw [enL_len]; omega) (ho _ (List.getElem_mem hi')) hh hR hz (by omega), List.drop_eq_getElem_cons hi', List.all_cons]
    cases hm : mayE l[i]
    · rfl
    · rw [cond_true, ih (i + 1) e _ _ (by omega) (linkH_len _ _) (linkH_R _ hR) (by simp [encB_len, linkH_len]; omega)]
      simp [recL, hdL, List.append_assoc]
set_option maxHeartbeats 8000000 in
theorem V38 (M d : Nat) (l : List En) (hl : l.length ≤ 264) (ho : ∀ e ∈ l, okE e) : sem tab (M + 1000) (d + 7) 38 [.l false (enL l)] [] = cond (l.all mayE) (yesPut (recL h0 l) (hdL h0 l)) noPut := by
  rw [sem_succ tab (M + 1000) (d + 6) 38 m38 rfl]
  have h46 := V46n M d
  have hz : (List.replicate 32 (PV.i IntKind.u8 0)).length = 32 := rfl
  have h := loopv38 M d l (List.replicate 32 (.i .u8 0)) hl ho hz l.length 0 (M + 999 - l.length) [] h0 (by omega) h0_len h0_R rfl
  rw [show M + 999 - l.length + 1 + l.length = M + 1000 by omega, List.drop_zero, List.nil_append] at h
  have hn := enL_len l
  have ul := uL_len h0
  rw [h0_len] at ul
  have ng : ¬ (264 : Int) < l.length := by omega
  have ng' : ¬ (l.length : Int) > 264 := by omega
  rw [← h]
  rw [← hn] at ng ng'
  simp only [sl38p, ob32p, List.length_nil]
  simp only [show byL [] = [] from rfl]
  generalize uL h0 = u at *
  generalize hz' : List.replicate 32 (PV.i .u8 0) = zz at *
  clear h
  generalize enL l = a at *
  simp -implicitDefEqProofs (maxSteps := 1000000) (disch := first | omega | rfl) [m38, h46, hz, hz', ul, ng, ng', box, KV, KS, getS, getO, gS, zipN, dropW, takeW, wds, stvs, sea, seaL, refs, refsL, refsEls, refsO, isPureEls, isPures, isPure, noExt, noExts, noExtEls, cellsL, ren, renL, renEls, keepO, keepS, keysO, refsS, refsOB, cntN, headC, setS, boxO, row, putW, putB, putB1, eNl, newOs, frz, renO, noExtO, zps, zp, two32, w64, -getElem?_pos]
def slRd (b : List (List PV)) (m : Nat) : SL := [(0, .l false b), (3, .p 88 0 0 0 none), (5, .sl 111 0 0 m), (6, .p 112 0 0 0 none)]
def obRd (z h : List PV) (xs : List (List PV)) : OB := [(111, row xs 9 true), (88, box [.blob 32 z] 32), (112, box [.blob 32 h] 32)]
set_option maxHeartbeats 16000000 in
theorem stepv40 (M d : Nat) (g : SL → OB → Option R) (bs : List Int) (z : List PV) (h : List Int) (l : List En) (hl : h.length = 32) (hR : byR h) (hz : z.length = 32) (hm : l.length < 264) (hb : bs.length ≤ 100000) (hr : byR bs) :
    m40b0 (sem tab (M + 1000) (d + 6)) (M + 1000) [] g (slRd (byL bs) l.length) (obRd z (uL h) (enL l)) = cond (decide ((bs.drop (62 * l.length)).length < 62)) (outR h l) (cond (mayE (frE (bs.drop (62 * l.length))) && decide (chars (linkH h (frE (bs.drop (62 * l.length)))) = chars (tgE (bs.drop (62 * l.length))))) (g (slRd (byL bs) (l ++ [frE (bs.drop (62 * l.length))]).length) (obRd z (uL (linkH h (frE (bs.drop (62 * l.length))))) (enL (l ++ [frE (bs.drop (62 * l.length))])))) (outR h l)) := by
  have el := enL_len l
  have bl := byL_len bs
  have dl : (bs.drop (62 * l.length)).length = bs.length - 62 * l.length := List.length_drop
  have ul := uL_len h
  rw [hl] at ul
  have c0 : (l.length : Int) < 264 := by omega
  have w1 : IntKind.i64.wrap (62 * (l.length : Int)) = ((62 * l.length : Nat) : Int) := by rw [w64 (by omega) (by omega)]; omega
  have w2 : IntKind.i64.wrap ((bs.length : Int) - ((62 * l.length : Nat) : Int)) = (bs.length : Int) - ((62 * l.length : Nat) : Int) := w64 (by omega) (by omega)
  have t9 : List.take l.length (enL l) = enL l := List.take_of_length_le (by omega)
  have hzl : (List.replicate 32 (PV.i IntKind.u8 0)).length = 32 := rfl
  by_cases c : (bs.drop (62 * l.length)).length < 62
  · rw [decide_eq_true c, cond_true]
    have c1 : (bs.length : Int) - ((62 * l.length : Nat) : Int) < 62 := by omega
    rw [← bl] at c1 w2
    simp only [slRd, obRd, outR]
    generalize 62 * l.length = n at *
    generalize byL bs = b at *
    generalize uL h = u at *
    generalize enL l = a at *
    simp -implicitDefEqProofs (maxSteps := 1000000) (disch := first | omega | rfl) [m40b0, c0, c1, w1, w2, t9, el, ul, hz, k_dis, k_fin3, box, KV, KS, getS, getO, gS, zipN, dropW, takeW, wds, stvs, sea, seaL, refs, refsL, refsEls, refsO, isPureEls, isPures, isPure, noExt, noExts, noExtEls, cellsL, ren, renL, renEls, keepO, keepS, keysO, refsS, refsOB, cntN, headC, setS, boxO, row, putW, putB, putB1, eNl, newOs, frz, renO, noExtO, zps, zp, two32, w64, -getElem?_pos]
  · rw [decide_eq_false c, cond_false]
    have c1 : ¬ ((bs.length : Int) - ((62 * l.length : Nat) : Int) < 62) := by omega
    have f30 : ((bs.drop (62 * l.length)).take 30).length = 30 := by rw [List.length_take]; omega
    have h70 := V70 (M + 900) (d + 1) ((bs.drop (62 * l.length)).take 30) f30 (byR_take _ (byR_drop _ hr))
    rw [show M + 900 + 100 = M + 1000 by omega, show d + 1 + 5 = d + 6 by omega, show getE ((bs.drop (62 * l.length)).take 30) = frE (bs.drop (62 * l.length)) from rfl] at h70
    have ho : okE (frE (bs.drop (62 * l.length))) := okE_get _ (byR_take _ (byR_drop _ hr))
    have oz : okE zeE := ⟨by decide, by decide, by decide, by decide⟩
    have hc : ∃ ec : En, ec = cond (mayE (frE (bs.drop (62 * l.length)))) (frE (bs.drop (62 * l.length))) zeE ∧ okE ec ∧ mayE ec = true := by
      cases hme : mayE (frE (bs.drop (62 * l.length)))
      · exact ⟨zeE, rfl, oz, by decide⟩
      · exact ⟨_, rfl, ho, hme⟩
    obtain ⟨ec, hec, oc, mc⟩ := hc
    have h39 := V39 M d h ec hl hR oc
    rw [linkC, mc, cond_true] at h39
    rw [← hec] at h70
    have s1 : List.drop (62 * l.length) (List.take (62 * l.length + 30) (byL bs)) = byL ((bs.drop (62 * l.length)).take 30) := by
      rw [byL_take, byL_drop, List.drop_take, Nat.add_sub_cancel_left]
    have s2 : List.drop (62 * l.length + 30) (List.take (62 * l.length + 62) (byL bs)) = byL (tgE (bs.drop (62 * l.length))) := by
      rw [byL_take, byL_drop, tgE, List.drop_take, List.drop_take, List.drop_drop, show 62 * l.length + 62 - (62 * l.length + 30) = 62 - 30 by omega]
    have c2 := unB_by (tgE (bs.drop (62 * l.length)))
    have c3 : unB ((uL (linkH h ec)).map fun v => [v]) = some (chars (linkH h ec)) := by rw [map_u]; exact unB_by _
    have ql := uL_len (linkH h ec)
    rw [linkH_len] at ql
    have tu := take_u (linkH h ec) (linkH_len h ec)
    have tu0 : (uL (linkH h ec)).take 32 = uL (linkH h ec) := by rw [← List.drop_zero (l := uL (linkH h ec))]; exact tu
    have wb := allW_by bs
    have w3 : IntKind.i64.wrap (((62 * l.length : Nat) : Int) + 30) = ((62 * l.length : Nat) : Int) + 30 := w64 (by omega) (by omega)
    have w4 : IntKind.i64.wrap (((62 * l.length : Nat) : Int) + 62) = ((62 * l.length : Nat) : Int) + 62 := w64 (by omega) (by omega)
    have n1 : (((62 * l.length : Nat) : Int) + 30).toNat = 62 * l.length + 30 := by omega
    have n2 : (((62 * l.length : Nat) : Int) + 62).toNat = 62 * l.length + 62 := by omega
    have n3 : (0 : Int) ≤ ((62 * l.length : Nat) : Int) := by omega
    have n4 : (0 : Int) ≤ ((62 * l.length : Nat) : Int) + 30 := by omega
    have n5 : ((62 * l.length : Nat) : Int) ≤ ((62 * l.length : Nat) : Int) + 30 := by omega
    have n6 : ((62 * l.length : Nat) : Int) + 30 ≤ ((62 * l.length : Nat) : Int) + 62 := by omega
    have n7 : ((62 * l.length : Nat) : Int) + 30 ≤ (bs.length : Int) := by omega
    have n8 : ((62 * l.length : Nat) : Int) + 62 ≤ (bs.length : Int) := by omega
    have le1 : l.length + 1 ≤ 4294967296 := by omega
    have le2 : ¬ l.length + 1 ≤ l.length := by omega
    have wl := allW_en l
    rw [← bl] at c1 w2 n7 n8
    cases hme : mayE (frE (bs.drop (62 * l.length)))
    · rw [hme] at h70
      simp only [Bool.false_and, cond_false, slRd, obRd, outR]
      clear hec
      generalize byL (tgE (bs.drop (62 * l.length))) = tg at *
      generalize byL ((bs.drop (62 * l.length)).take 30) = fr at *
      generalize 62 * l.length = n at *
      generalize byL bs = b at *
      generalize uL (linkH h ec) = q at *
      generalize uL h = u at *
      generalize enL l = a at *
      obtain ⟨e1, e2, e3, e4, e5, e6, e7, e8, e9⟩ := ec
      simp only [enC] at h39 h70
      generalize hz' : List.replicate 32 (PV.i .u8 0) = zz at *
      simp -implicitDefEqProofs (maxSteps := 1000000) (disch := first | omega | rfl) [m40b0, h39, h70, c0, c1, w1, w2, w3, w4, n1, n2, n3, n4, n5, n6, n7, n8, s1, t9, el, ul, ql, wb, hz, hz', hzl, k_dis, k_fin3, box, KV, KS, getS, getO, gS, zipN, dropW, takeW, wds, stvs, sea, seaL, refs, refsL, refsEls, refsO, isPureEls, isPures, isPure, noExt, noExts, noExtEls, cellsL, ren, renL, renEls, keepO, keepS, keysO, refsS, refsOB, cntN, headC, setS, boxO, row, putW, putB, putB1, eNl, newOs, frz, renO, noExtO, zps, zp, two32, w64, -getElem?_pos]
    · rw [hme, cond_true] at hec
      subst hec
      rw [hme] at h70
      simp only [Bool.true_and]
      generalize frE (bs.drop (62 * l.length)) = e at *
      have ea : enL (l ++ [e]) = enL l ++ [enC e] := by simp [enL]
      have la : (l ++ [e]).length = l.length + 1 := by simp
      simp only [slRd, obRd, outR, ea, la]
      clear ea la
      generalize chars (linkH h e) = p at *
      generalize chars (tgE (bs.drop (62 * l.length))) = p' at *
      generalize byL (tgE (bs.drop (62 * l.length))) = tg at *
      generalize byL ((bs.drop (62 * l.length)).take 30) = fr at *
      generalize 62 * l.length = n at *
      generalize byL bs = b at *
      generalize uL (linkH h e) = q at *
      generalize uL h = u at *
      generalize enL l = a at *
      obtain ⟨e1, e2, e3, e4, e5, e6, e7, e8, e9⟩ := e
      simp only [enC] at h39 h70 ⊢
      generalize hz' : List.replicate 32 (PV.i .u8 0) = zz at *
      by_cases hp : p = p'
      · rw [decide_eq_true hp]
        subst hp
        simp -implicitDefEqProofs (maxSteps := 1000000) (disch := first | omega | rfl) [m40b0, h39, h70, c0, c1, c2, c3, w1, w2, w3, w4, n1, n2, n3, n4, n5, n6, n7, n8, s1, s2, t9, el, ul, ql, tu, tu0, wb, le1, le2, wl, hz, hz', hzl, k_dis, k_fin3, box, KV, KS, getS, getO, gS, zipN, dropW, takeW, wds, stvs, sea, seaL, refs, refsL, refsEls, refsO, isPureEls, isPures, isPure, noExt, noExts, noExtEls, cellsL, ren, renL, renEls, keepO, keepS, keysO, refsS, refsOB, cntN, headC, setS, boxO, row, putW, putB, putB1, eNl, newOs, frz, renO, noExtO, zps, zp, two32, w64, -getElem?_pos]
      · rw [decide_eq_false hp]
        simp -implicitDefEqProofs (maxSteps := 1000000) (disch := first | omega | rfl) [m40b0, h39, h70, c0, c1, c2, c3, hp, w1, w2, w3, w4, n1, n2, n3, n4, n5, n6, n7, n8, s1, s2, t9, el, ul, ql, tu, tu0, wb, hz, hz', hzl, k_dis, k_fin3, box, KV, KS, getS, getO, gS, zipN, dropW, takeW, wds, stvs, sea, seaL, refs, refsL, refsEls, refsO, isPureEls, isPures, isPure, noExt, noExts, noExtEls, cellsL, ren, renL, renEls, keepO, keepS, keysO, refsS, refsOB, cntN, headC, setS, boxO, row, putW, putB, putB1, eNl, newOs, frz, renO, noExtO, zps, zp, two32, w64, -getElem?_pos]
set_option maxHeartbeats 8000000 in
theorem endv40 (Φ : Sem') (N : Nat) (g : SL → OB → Option R) (b : List (List PV)) (z : List PV) (h : List Int) (l : List En) (hl : h.length = 32) (hz : z.length = 32) (hm : l.length = 264) :
    m40b0 Φ N [] g (slRd b l.length) (obRd z (uL h) (enL l)) = outR h l := by
  have el := enL_len l
  have ul := uL_len h
  rw [hl] at ul
  have c0 : ¬ (l.length : Int) < 264 := by omega
  have w1 : IntKind.i64.wrap (62 * (l.length : Int)) = ((62 * l.length : Nat) : Int) := by rw [w64 (by omega) (by omega)]; omega
  have t9 : List.take l.length (enL l) = enL l := List.take_of_length_le (by omega)
  simp only [slRd, obRd, outR]
  generalize 62 * l.length = n at *
  generalize uL h = u at *
  generalize enL l = a at *
  simp -implicitDefEqProofs (maxSteps := 1000000) (disch := first | omega | rfl) [m40b0, c0, w1, t9, el, ul, hz, k_dis, k_fin3, box, KV, KS, getS, getO, gS, zipN, dropW, takeW, wds, stvs, sea, seaL, refs, refsL, refsEls, refsO, isPureEls, isPures, isPure, noExt, noExts, noExtEls, cellsL, ren, renL, renEls, keepO, keepS, keysO, refsS, refsOB, cntN, headC, setS, boxO, row, putW, putB, putB1, eNl, newOs, frz, renO, noExtO, zps, zp, two32, w64, -getElem?_pos]
theorem loopv40 (M d : Nat) (bs : List Int) (z : List PV) (hz : z.length = 32) (hb : bs.length ≤ 100000) (hr : byR bs) : ∀ (k e : Nat) (h : List Int) (l : List En), l.length + k = 264 → h.length = 32 → byR h →
    loopC (m40b0 (sem tab (M + 1000) (d + 6)) (M + 1000) []) (e + 1 + k) (slRd (byL bs) l.length) (obRd z (uL h) (enL l)) = outR (headS h (goodS (stepsL k h (bs.drop (62 * l.length))))) (l ++ (goodS (stepsL k h (bs.drop (62 * l.length)))).map (·.1)) := by
  intro k
  induction k with
  | zero =>
    intro e h l hk hh hR
    rw [Nat.add_zero, k_loop, endv40 _ _ _ _ z h l hh hz (by omega)]
    simp [stepsL, goodS, headS]
  | succ k ih =>
    intro e h l hk hh hR
    rw [← Nat.add_assoc, k_loop, stepv40 M d _ bs z h l hh hR hz (by omega) hb hr, stepsL]
    by_cases c : (bs.drop (62 * l.length)).length < 62
    · rw [decide_eq_true c, cond_true, if_pos c]
      simp [goodS, headS]
    · rw [decide_eq_false c, cond_false, if_neg c]
      cases hm : mayE (frE (bs.drop (62 * l.length)))
      · simp [goodS, headS]
      · cases hs : decide (chars (linkH h (frE (bs.drop (62 * l.length)))) = chars (tgE (bs.drop (62 * l.length))))
        · simp [goodS, headS]
        · rw [Bool.and_self, cond_true, ih e _ (l ++ [frE (bs.drop (62 * l.length))]) (by simp; omega) (linkH_len _ _) (linkH_R _ hR)]
          have : bs.drop (62 * (l ++ [frE (bs.drop (62 * l.length))]).length) = (bs.drop (62 * l.length)).drop 62 := by
            rw [List.drop_drop, List.length_append, List.length_singleton]; congr 1
          rw [this]
          simp [goodS, headS]
set_option maxHeartbeats 8000000 in
theorem V40r (M d : Nat) (bs : List Int) (hb : bs.length ≤ 100000) (hr : byR bs) : sem tab (M + 1000) (d + 7) 40 [.l false (byL bs)] [] = outR (rdH bs) (rdL bs) := by
  rw [sem_succ tab (M + 1000) (d + 6) 40 m40 rfl]
  have h46 := V46n M d
  have hzl : (List.replicate 32 (PV.i IntKind.u8 0)).length = 32 := rfl
  have h := loopv40 M d bs (List.replicate 32 (.i .u8 0)) hzl hb hr 264 (M + 735) h0 [] (by simp) h0_len h0_R
  rw [show M + 735 + 1 + 264 = M + 1000 by omega, List.length_nil, Nat.mul_zero, List.drop_zero, List.nil_append] at h
  rw [show outR (headS h0 (goodS (stepsL 264 h0 bs))) ((goodS (stepsL 264 h0 bs)).map (·.1)) = outR (rdH bs) (rdL bs) from rfl] at h
  rw [← h]
  clear h
  have ul := uL_len h0
  rw [h0_len] at ul
  simp only [slRd, obRd, show enL [] = [] from rfl]
  generalize uL h0 = u at *
  generalize hz' : List.replicate 32 (PV.i .u8 0) = zz at *
  generalize byL bs = b at *
  simp -implicitDefEqProofs (maxSteps := 1000000) (disch := first | omega | rfl) [m40, h46, hzl, hz', ul, box, KV, KS, getS, getO, gS, zipN, dropW, takeW, wds, stvs, sea, seaL, refs, refsL, refsEls, refsO, isPureEls, isPures, isPure, noExt, noExts, noExtEls, cellsL, ren, renL, renEls, keepO, keepS, keysO, refsS, refsOB, cntN, headC, setS, boxO, row, putW, putB, putB1, eNl, newOs, frz, renO, noExtO, zps, zp, two32, w64, -getElem?_pos]
end
section
/-- What is told of what is left behind all that is read. -/
noncomputable def restV (h : List Int) (r : List Int) : List Int × Int :=
  cond (r.length == 0) (h, 0) (cond (decide (r.length < 62)) (zero32L, 4) (cond (mayE (frE r)) (zero32L, 7) (zero32L, 3)))
theorem vf_rest : ∀ (k : Nat) (h bs : List Int) (n : Nat), bs.length < 62 * (k + 1) →
    vfS (n + bs.length) h n (stepsL k h bs) = restV (headS h (goodS (stepsL k h bs))) (bs.drop (62 * (goodS (stepsL k h bs)).length)) := by
  intro k
  induction k with
  | zero =>
    intro h bs n hb
    simp only [stepsL, goodS, vfS, headS, List.length_nil, Nat.mul_zero, List.drop_zero, restV]
    rw [decide_eq_true (show bs.length < 62 by omega), cond_true]
    congr 1
    rw [Bool.eq_iff_iff]; simp only [beq_iff_eq]; omega
  | succ k ih =>
    intro h bs n hb
    rw [stepsL]
    by_cases c : bs.length < 62
    · rw [if_pos c]
      simp only [goodS, vfS, headS, List.length_nil, Nat.mul_zero, List.drop_zero, restV]
      rw [decide_eq_true c, cond_true]
      congr 1
      rw [Bool.eq_iff_iff]; simp only [beq_iff_eq]; omega
    · rw [if_neg c]
      have z : (bs.length == 0) = false := by rw [beq_eq_false_iff_ne]; omega
      cases hm : mayE (frE bs)
      · simp only [cond_false, goodS, vfS, headS, restV]
        rw [show ((3 : Int) == 0) = false from rfl]
        simp only [cond_false, List.length_nil, Nat.mul_zero, List.drop_zero]
        rw [z, decide_eq_false c, hm]
        rfl
      · cases hs : decide (chars (linkH h (frE bs)) = chars (tgE bs))
        · simp only [cond_false, cond_true, goodS, vfS, headS, restV]
          rw [show ((7 : Int) == 0) = false from rfl]
          simp only [cond_false, List.length_nil, Nat.mul_zero, List.drop_zero]
          rw [z, decide_eq_false c, hm]
          rfl
        · have dl : (bs.drop 62).length = bs.length - 62 := List.length_drop
          have := ih (linkH h (frE bs)) (bs.drop 62) (n + 62) (by omega)
          rw [dl, show n + 62 + (bs.length - 62) = n + bs.length by omega] at this
          simp only [cond_true, goodS, vfS, headS, BEq.rfl, List.length_cons]
          rw [this, List.drop_drop, show 62 + 62 * (goodS (stepsL k (linkH h (frE bs)) (bs.drop 62))).length = 62 * ((goodS (stepsL k (linkH h (frE bs)) (bs.drop 62))).length + 1) by omega]
theorem vfB_rest (bs : List Int) (hb : bs.length ≤ 16000) : vfB bs = restV (rdH bs) (bs.drop (62 * (rdL bs).length)) := by
  have h := vf_rest 264 h0 bs 0 (by omega)
  rw [Nat.zero_add] at h
  rw [vfB, h, rdL, List.length_map]
  rfl
set_option maxHeartbeats 16000000 in
theorem V41v (M d : Nat) (bs : List Int) (hb : bs.length ≤ 16000) (hr : byR bs) : sem tab (M + 1000) (d + 8) 41 [.l false (byL bs)] [] = outV (uL (vfB bs).1) (vfB bs).2 := by
  rw [sem_succ tab (M + 1000) (d + 7) 41 m41 rfl]
  have h40 := V40r M d bs (by omega) hr
  have rle : 62 * (rdL bs).length ≤ bs.length := by
    have := (rd_spec 264 h0 bs hr).2.2.2.1
    rw [show goodS (stepsL 264 h0 bs) = rdS bs from rfl] at this
    rw [rdL, List.length_map]; exact this
  have dl : (bs.drop (62 * (rdL bs).length)).length = bs.length - 62 * (rdL bs).length := List.length_drop
  have bl := byL_len bs
  have el := enL_len (rdL bs)
  have te : List.take (rdL bs).length (enL (rdL bs)) = enL (rdL bs) := List.take_of_length_le (by omega)
  have hdl : (rdH bs).length = 32 := by
    have := (rd_spec 264 h0 bs hr).2.2.1
    rw [show rdH bs = _ from this.symm]
    exact hdL_len _ _ h0_len
  have ul := uL_len (rdH bs)
  rw [hdl] at ul
  have hz := hz32
  have hzl : (List.replicate 32 (PV.i IntKind.u8 0)).length = 32 := rfl
  rw [vfB_rest bs hb]
  unfold restV
  have c264 : ((rdL bs).length : Int) ≠ 264 := by omega
  have c264' : (((rdL bs).length : Int) == 264) = false := by rw [beq_eq_false_iff_ne]; exact c264
  have w1 : IntKind.i64.wrap ((bs.length : Int) - ((62 * (rdL bs).length : Nat) : Int)) = (bs.length : Int) - ((62 * (rdL bs).length : Nat) : Int) := w64 (by omega) (by omega)
  by_cases c : 62 * (rdL bs).length = bs.length
  · rw [show ((bs.drop (62 * (rdL bs).length)).length == 0) = true by rw [beq_iff_eq]; omega, cond_true]
    have c1 : (((62 * (rdL bs).length : Nat) : Int) == (bs.length : Int)) = true := by rw [beq_iff_eq]; omega
    rw [← bl] at c1
    simp only [outR, outV, row] at h40 ⊢
    clear hz
    generalize 62 * (rdL bs).length = n at *
    generalize byL bs = b at *
    generalize enL (rdL bs) = a at *
    generalize uL (rdH bs) = q at *
    generalize hz' : List.replicate 32 (PV.i .u8 0) = zz at *
    simp -implicitDefEqProofs (maxSteps := 1000000) (disch := first | omega | rfl) [m41, h40, c1, el, te, ul, hz', hzl, box, KV, KS, getS, getO, gS, zipN, dropW, takeW, wds, stvs, sea, seaL, refs, refsL, refsEls, refsO, isPureEls, isPures, isPure, noExt, noExts, noExtEls, cellsL, ren, renL, renEls, keepO, keepS, keysO, refsS, refsOB, cntN, headC, setS, boxO, row, putW, putB, putB1, eNl, newOs, frz, renO, noExtO, zps, zp, two32, w64, -getElem?_pos]
  · rw [show ((bs.drop (62 * (rdL bs).length)).length == 0) = false by rw [beq_eq_false_iff_ne]; omega, cond_false]
    have c1 : (((62 * (rdL bs).length : Nat) : Int) == (bs.length : Int)) = false := by rw [beq_eq_false_iff_ne]; omega
    by_cases c2 : (bs.drop (62 * (rdL bs).length)).length < 62
    · rw [decide_eq_true c2, cond_true]
      have c3 : (bs.length : Int) - ((62 * (rdL bs).length : Nat) : Int) < 62 := by omega
      rw [← bl] at c1 c3 w1
      simp only [outR, outV, row, ← hz] at h40 ⊢
      clear hz
      generalize 62 * (rdL bs).length = n at *
      generalize byL bs = b at *
      rw [← el] at c264' h40 te
      generalize enL (rdL bs) = a at *
      generalize uL (rdH bs) = q at *
      generalize hz' : List.replicate 32 (PV.i .u8 0) = zz at *
      simp -implicitDefEqProofs (maxSteps := 1000000) (disch := first | omega | rfl) [m41, h40, c1, c3, w1, c264', te, ul, hz', hzl, box, KV, KS, getS, getO, gS, zipN, dropW, takeW, wds, stvs, sea, seaL, refs, refsL, refsEls, refsO, isPureEls, isPures, isPure, noExt, noExts, noExtEls, cellsL, ren, renL, renEls, keepO, keepS, keysO, refsS, refsOB, cntN, headC, setS, boxO, row, putW, putB, putB1, eNl, newOs, frz, renO, noExtO, zps, zp, two32, w64, -getElem?_pos]
    · rw [decide_eq_false c2, cond_false]
      have c3 : ¬ (bs.length : Int) - ((62 * (rdL bs).length : Nat) : Int) < 62 := by omega
      have f30 : ((bs.drop (62 * (rdL bs).length)).take 30).length = 30 := by rw [List.length_take]; omega
      have h70 := V70 (M + 900) (d + 2) ((bs.drop (62 * (rdL bs).length)).take 30) f30 (byR_take _ (byR_drop _ hr))
      rw [show M + 900 + 100 = M + 1000 by omega, show d + 2 + 5 = d + 7 by omega, show getE ((bs.drop (62 * (rdL bs).length)).take 30) = frE (bs.drop (62 * (rdL bs).length)) from rfl] at h70
      have s1 : List.drop (62 * (rdL bs).length) (List.take (62 * (rdL bs).length + 30) (byL bs)) = byL ((bs.drop (62 * (rdL bs).length)).take 30) := by
        rw [byL_take, byL_drop, List.drop_take, Nat.add_sub_cancel_left]
      have wb := allW_by bs
      have w3 : IntKind.i64.wrap (((62 * (rdL bs).length : Nat) : Int) + 30) = ((62 * (rdL bs).length : Nat) : Int) + 30 := w64 (by omega) (by omega)
      have n1 : (((62 * (rdL bs).length : Nat) : Int) + 30).toNat = 62 * (rdL bs).length + 30 := by omega
      have n3 : (0 : Int) ≤ ((62 * (rdL bs).length : Nat) : Int) := by omega
      have n5 : ((62 * (rdL bs).length : Nat) : Int) ≤ ((62 * (rdL bs).length : Nat) : Int) + 30 := by omega
      have n7 : ((62 * (rdL bs).length : Nat) : Int) + 30 ≤ (bs.length : Int) := by omega
      rw [← bl] at c1 c3 w1 n7
      generalize frE (bs.drop (62 * (rdL bs).length)) = e at *
      obtain ⟨ec, hec⟩ : ∃ ec, cond (mayE e) e zeE = ec := ⟨_, rfl⟩
      rw [hec] at h70
      clear hec
      generalize mayE e = m at *
      simp only [outR, outV, row] at h40 ⊢
      generalize byL ((bs.drop (62 * (rdL bs).length)).take 30) = fr at *
      generalize 62 * (rdL bs).length = n at *
      generalize byL bs = b at *
      rw [← el] at c264' h40 te
      generalize enL (rdL bs) = a at *
      generalize uL (rdH bs) = q at *
      obtain ⟨e1, e2, e3, e4, e5, e6, e7, e8, e9⟩ := ec
      simp only [enC] at h70
      cases m <;> simp only [cond_true, cond_false, ← hz] <;> clear hz <;> generalize hz' : List.replicate 32 (PV.i .u8 0) = zz at * <;>
        simp -implicitDefEqProofs (maxSteps := 1000000) (disch := first | omega | rfl) [m41, h40, h70, c1, c3, w1, w3, n1, n3, n5, n7, s1, wb, c264', te, ul, hz', hzl, box, KV, KS, getS, getO, gS, zipN, dropW, takeW, wds, stvs, sea, seaL, refs, refsL, refsEls, refsO, isPureEls, isPures, isPure, noExt, noExts, noExtEls, cellsL, ren, renL, renEls, keepO, keepS, keysO, refsS, refsOB, cntN, headC, setS, boxO, row, putW, putB, putB1, eNl, newOs, frz, renO, noExtO, zps, zp, two32, w64, -getElem?_pos]
end
section
def sl46p (xs : List (List PV)) (i : Nat) : SL := [(0, .l false xs), (2, .p 80 0 0 0 none), (3, .p 88 0 0 0 none), (4, .i .i64 i)]
def ob46p (z h : List PV) : OB := [(80, box [.blob 32 z] 32), (88, box [.blob 32 h] 32)]
set_option maxHeartbeats 16000000 in
theorem stepv46 (M d : Nat) (g : SL → OB → Option R) (xs : List (List PV)) (z : List PV) (h : List Int) (i : Nat) (e : En) (hx : xs[i]? = some (enC e)) (hi : i < xs.length) (hn : xs.length < 1000) (ho : okE e) (hm : mayE e = true) (hl : h.length = 32) (hR : byR h) (hz : z.length = 32) :
    m46b0 (sem tab (M + 1000) (d + 5)) (M + 1000) [] g (sl46p xs i) (ob46p z (uL h)) = g (sl46p xs (i + 1)) (ob46p z (uL (linkH h e))) := by
  have h68 := V68 (M + 900) (d + 1) e ho
  rw [show M + 900 + 100 = M + 1000 by omega, show d + 1 + 4 = d + 5 by omega] at h68
  have h69 := L27' M d ([1] ++ h ++ encB e) (by simp [hl, encB_len]) (byR_app (byR_app (fun x hx => by simp at hx; omega) hR) (encB_R e))
  rw [← linkH] at h69
  have hb1 : byL ([1] ++ h ++ encB e) = [PV.i .u8 1] :: ((uL h).map (fun v => [v]) ++ byL (encB e)) := by
    rw [byL_app', byL_app', map_u]; rfl
  rw [hb1] at h69
  have be := byL_len (encB e)
  rw [encB_len] at be
  have te : List.take 30 (byL (encB e)) = byL (encB e) := List.take_of_length_le (by omega)
  have ul := uL_len h
  rw [hl] at ul
  have ql := uL_len (linkH h e)
  rw [linkH_len] at ql
  have tu := take_u h hl
  have tu0 : (uL h).take 32 = uL h := by rw [← List.drop_zero (l := uL h)]; exact tu
  have mul : ((uL h).map (fun v => [v])).length = 32 := by rw [List.length_map, uL_len, hl]
  have muw : allW 1 ((uL h).map (fun v => [v])) = true := by rw [map_u]; exact allW_by _
  have muf : flatEls ((uL h).map (fun v => [v])) = true := by rw [map_u]; exact flat_by _
  have mt : List.take 32 ((uL h).map (fun v => [v])) = (uL h).map (fun v => [v]) := List.take_of_length_le (by omega)
  have mt2 : List.take 62 ((uL h).map (fun v => [v]) ++ byL (encB e)) = (uL h).map (fun v => [v]) ++ byL (encB e) := List.take_of_length_le (by rw [List.length_append]; omega)
  have we := allW_by (encB e)
  have fe := flat_by (encB e)
  have w2 := w64n (i := i) (by omega)
  have ci : (i : Int) < xs.length := by omega
  rw [hm] at h68
  simp only [cond_true, row] at h68
  clear hb1
  simp only [sl46p, ob46p]
  generalize uL (linkH h e) = q at *
  generalize uL h = u at *
  generalize byL (encB e) = b at *
  obtain ⟨e1, e2, e3, e4, e5, e6, e7, e8, e9⟩ := e
  simp only [enC] at h68 hx
  simp -implicitDefEqProofs (maxSteps := 1000000) (disch := first | omega | rfl) [m46b0, hx, ci, w2, h68, h69, be, te, ul, ql, tu, tu0, mul, muw, muf, mt, mt2, we, fe, hz, k_cont_bs, box, KV, KS, getS, getO, gS, zipN, dropW, takeW, wds, stvs, sea, seaL, refs, refsL, refsEls, refsO, isPureEls, isPures, isPure, noExt, noExts, noExtEls, cellsL, ren, renL, renEls, keepO, keepS, keysO, refsS, refsOB, cntN, headC, setS, boxO, row, putW, putB, putB1, eNl, newOs, frz, renO, noExtO, zps, zp, two32, w64, -getElem?_pos]
set_option maxHeartbeats 4000000 in
theorem endv46 (Φ : Sem') (N : Nat) (g : SL → OB → Option R) (xs : List (List PV)) (z h : List PV) (hl : h.length = 32) (hz : z.length = 32) :
    m46b0 Φ N [] g (sl46p xs xs.length) (ob46p z h) = some (.agg [.blob 32 h], []) := by
  simp only [sl46p, ob46p]
  simp -implicitDefEqProofs (maxSteps := 1000000) (disch := first | omega | rfl) [m46b0, hl, hz, k_fin3, box, KV, KS, getS, getO, gS, zipN, dropW, takeW, wds, stvs, sea, seaL, refs, refsL, refsEls, refsO, isPureEls, isPures, isPure, noExt, noExts, noExtEls, cellsL, ren, renL, renEls, keepO, keepS, keysO, refsS, refsOB, cntN, headC, setS, boxO, row, putW, putB, putB1, eNl, newOs, frz, renO, noExtO, zps, zp, two32, w64, -getElem?_pos]
theorem loopv46 (M d : Nat) (l : List En) (z : List PV) (hl : l.length ≤ 264) (ho : ∀ e ∈ l, okE e) (hm : l.all mayE = true) (hz : z.length = 32) : ∀ (k i e : Nat) (h : List Int), i + k = l.length → h.length = 32 → byR h →
    loopC (m46b0 (sem tab (M + 1000) (d + 5)) (M + 1000) []) (e + 1 + k) (sl46p (enL l) i) (ob46p z (uL h)) = some (.agg [.blob 32 (uL (hdL h (l.drop i)))], []) := by
  intro k
  induction k with
  | zero =>
    intro i e h hi hh hR
    have : i = (enL l).length := by rw [enL_len]; omega
    subst this
    rw [Nat.add_zero, k_loop, endv46 _ _ _ (enL l) z _ (by rw [uL_len, hh]) hz, enL_len, List.drop_length]
    simp [hdL]
  | succ k ih =>
    intro i e h hi hh hR
    have hi' : i < l.length := by omega
    rw [← Nat.add_assoc, k_loop, stepv46 M d _ (enL l) z h i l[i] (enL_get l i hi') (by rw [enL_len]; exact hi') (by rw [enL_len]; omega) (ho _ (List.getElem_mem hi')) ((List.all_eq_true.1 hm) _ (List.getElem_mem _)) hh hR hz, List.drop_eq_getElem_cons hi', ih (i + 1) e _ (by omega) (linkH_len _ _) (linkH_R _ hR)]
    simp [hdL]
set_option maxHeartbeats 8000000 in
theorem V46 (M d : Nat) (l : List En) (hl : l.length ≤ 264) (ho : ∀ e ∈ l, okE e) (hm : l.all mayE = true) : sem tab (M + 1000) (d + 6) 46 [.l false (enL l)] [] = some (.agg [.blob 32 (uL (hdL h0 l))], []) := by
  rw [sem_succ tab (M + 1000) (d + 5) 46 m46 rfl]
  have h69 := L27' M d [0] (by decide) (fun x hx => by simp at hx; omega)
  rw [show sumI' [0] = h0 from rfl, show byL [0] = [[.i .u8 0]] from rfl] at h69
  have hz : (List.replicate 32 (PV.i IntKind.u8 0)).length = 32 := rfl
  have h := loopv46 M d l (List.replicate 32 (.i .u8 0)) hl ho hm hz l.length 0 (M + 999 - l.length) h0 (by omega) h0_len h0_R
  rw [show M + 999 - l.length + 1 + l.length = M + 1000 by omega, List.drop_zero] at h
  have ul := uL_len h0
  rw [h0_len] at ul
  rw [← h]
  clear h
  simp only [sl46p, ob46p]
  generalize uL h0 = u at *
  generalize hz' : List.replicate 32 (PV.i .u8 0) = zz at *
  generalize enL l = a at *
  simp -implicitDefEqProofs (maxSteps := 1000000) (disch := first | omega | rfl) [m46, h69, hz, hz', ul, box, KV, KS, getS, getO, gS, zipN, dropW, takeW, wds, stvs, sea, seaL, refs, refsL, refsEls, refsO, isPureEls, isPures, isPure, noExt, noExts, noExtEls, cellsL, ren, renL, renEls, keepO, keepS, keysO, refsS, refsOB, cntN, headC, setS, boxO, row, putW, putB, putB1, eNl, newOs, frz, renO, noExtO, zps, zp, two32, w64, -getElem?_pos]
/-- The text behind all of a list. -/
noncomputable def txt (l : List En) : List Int := (textsL l).getD l.length []
theorem txt_take (a : List En) (i : Nat) (hi : i ≤ a.length) : txt (a.take i) = (textsL a).getD i [] := by
  have hl : (a.take i).length = i := by rw [List.length_take]; omega
  rw [txt, hl]
  cases i with
  | zero => rfl
  | succ i =>
    rw [text_get a i (by omega), text_get (a.take (i + 1)) i (by omega), List.take_take, show min i (i + 1) = i by omega, List.getElem_take]
def outT (x : List Int) : Option R := some (.sl 0 0 0 x.length, [row (byL x) 1 true])
theorem enL_take (l : List En) (n : Nat) : (enL l).take n = enL (l.take n) := by simp [enL]
set_option maxHeartbeats 16000000 in
theorem V73 (M d : Nat) (l : List En) (hl : l.length ≤ 264) (ho : ∀ e ∈ l, okE e) (hm : l.all mayE = true) : sem tab (M + 1000) (d + 7) 73 [.l false (enL l)] [] = outT (txt l) := by
  rw [sem_succ tab (M + 1000) (d + 6) 73 m73 rfl]
  cases hc : l.length with
  | zero =>
    have : l = [] := List.eq_nil_of_length_eq_zero hc
    subst this
    have e : outT (txt []) = some (.sl 0 0 0 1, [row [[.i .u8 0]] 1 true]) := rfl
    rw [e]
    simp -implicitDefEqProofs (maxSteps := 1000000) (disch := first | omega | rfl) [m73, enL, row, KV, KS, getS, getO, gS, zipN, dropW, takeW, wds, stvs, sea, seaL, refs, refsL, refsEls, refsO, isPureEls, isPures, isPure, noExt, noExts, noExtEls, cellsL, ren, renL, renEls, keepO, keepS, keysO, refsS, refsOB, cntN, headC, setS, boxO, row, putW, putB, putB1, eNl, newOs, frz, renO, noExtO, zps, zp, two32, w64, -getElem?_pos]
  | succ n =>
    have hn : n < l.length := by omega
    have h46 := V46 M d (l.take n) (by rw [List.length_take]; omega) (fun e he => ho e (List.mem_of_mem_take he)) (List.all_eq_true.2 fun e he => List.all_eq_true.1 hm e (List.mem_of_mem_take he))
    have h68 := V68 (M + 900) (d + 2) l[n] (ho _ (List.getElem_mem hn))
    rw [show M + 900 + 100 = M + 1000 by omega, show d + 2 + 4 = d + 6 by omega, (List.all_eq_true.1 hm) _ (List.getElem_mem hn), cond_true] at h68
    have hT : txt l = [1] ++ hdL h0 (l.take n) ++ encB l[n] := by rw [txt, hc, text_get l n hn]
    have hx := enL_get l n hn
    have el := enL_len l
    rw [hc] at el
    have wl := allW_en l
    rw [← enL_take] at h46
    have hl32 : (hdL h0 (l.take n)).length = 32 := hdL_len _ _ h0_len
    rw [hT]
    generalize hdL h0 (l.take n) = h at *
    generalize l[n] = e at *
    have hb1 : byL ([1] ++ h ++ encB e) = [PV.i .u8 1] :: ((uL h).map (fun v => [v]) ++ byL (encB e)) := by
      rw [byL_app', byL_app', map_u]; rfl
    have lb : ([1] ++ h ++ encB e).length = 63 := by simp [hl32, encB_len]
    simp only [outT, hb1, lb]
    have be := byL_len (encB e)
    rw [encB_len] at be
    have te : List.take 30 (byL (encB e)) = byL (encB e) := List.take_of_length_le (by omega)
    have ul := uL_len h
    rw [hl32] at ul
    have tu := take_u h hl32
    have tu0 : (uL h).take 32 = uL h := by rw [← List.drop_zero (l := uL h)]; exact tu
    have mul : ((uL h).map (fun v => [v])).length = 32 := by rw [List.length_map, uL_len, hl32]
    have muw : allW 1 ((uL h).map (fun v => [v])) = true := by rw [map_u]; exact allW_by _
    have muf : flatEls ((uL h).map (fun v => [v])) = true := by rw [map_u]; exact flat_by _
    have mt : List.take 32 ((uL h).map (fun v => [v])) = (uL h).map (fun v => [v]) := List.take_of_length_le (by omega)
    have mt2 : List.take 62 ((uL h).map (fun v => [v]) ++ byL (encB e)) = (uL h).map (fun v => [v]) ++ byL (encB e) := List.take_of_length_le (by rw [List.length_append]; omega)
    have we := allW_by (encB e)
    have fe := flat_by (encB e)
    have hzl : (List.replicate 32 (PV.i IntKind.u8 0)).length = 32 := rfl
    have z1 : ((n : Int) + 1 == 0) = false := by rw [beq_eq_false_iff_ne]; omega
    have w1 : IntKind.i64.wrap ((n : Int) + 1 - 1) = (n : Int) := by rw [w64 (by omega) (by omega)]; omega
    have c1 : (n : Int) ≤ (n : Int) + 1 := by omega
    have c2 : (n : Int) < (n : Int) + 1 := by omega
    have c3 : (0 : Int) ≤ (n : Int) := by omega
    clear hb1 lb hT
    simp only [row] at h68 ⊢
    generalize uL h = u at *
    generalize byL (encB e) = b at *
    generalize enL l = a at *
    obtain ⟨e1, e2, e3, e4, e5, e6, e7, e8, e9⟩ := e
    simp only [enC] at h68 hx
    generalize hz' : List.replicate 32 (PV.i .u8 0) = zz at *
    simp -implicitDefEqProofs (maxSteps := 1000000) (disch := first | omega | rfl) [m73, h46, hx, h68, el, wl, z1, w1, c1, c2, c3, be, te, ul, tu, tu0, mul, muw, muf, mt, mt2, we, fe, hz', hzl, k_cont_bs, box, KV, KS, getS, getO, gS, zipN, dropW, takeW, wds, stvs, sea, seaL, refs, refsL, refsEls, refsO, isPureEls, isPures, isPure, noExt, noExts, noExtEls, cellsL, ren, renL, renEls, keepO, keepS, keysO, refsS, refsOB, cntN, headC, setS, boxO, row, putW, putB, putB1, eNl, newOs, frz, renO, noExtO, zps, zp, two32, w64, -getElem?_pos]
end
section
def outZ : Option (List Int × List Int) → Option R
  | none => some (.tup [.sl 0 0 0 0, .sl 1 0 0 0, .b false], [row [] 1 true, row [] 1 true])
  | some (x, y) => some (.tup [.sl 0 0 0 x.length, .sl 1 0 0 y.length, .b true], [row (byL x) 1 true, row (byL y) 1 true])
def slZ (a b : List (List PV)) (i k : Int) : SL := [(0, .l false a), (1, .l false b), (14, .i .i64 i), (15, .i .i64 k)]
set_option maxHeartbeats 16000000 in
theorem stepv44 (M d : Nat) (g : SL → OB → Option R) (a b : List En) (i k : Nat) (hi : i ≤ a.length) (hk : k ≤ b.length) (ha : a.length ≤ 264) (hb : b.length ≤ 264) (oa : ∀ e ∈ a, okE e) (ob : ∀ e ∈ b, okE e) (ma : a.all mayE = true) (mb : b.all mayE = true) :
    m44b0 (sem tab (M + 1000) (d + 8)) (M + 1000) [] g (slZ (enL a) (enL b) i k) [] = cond (decide (chars ((textsL a).getD i []) = chars ((textsL b).getD k [])) && (decide (0 < i) && decide (0 < k))) (g (slZ (enL a) (enL b) ((i : Int) - 1) ((k : Int) - 1)) []) (outZ (some ((textsL a).getD i [], (textsL b).getD k []))) := by
  have t1 := V73 M (d + 1) (a.take i) (by rw [List.length_take]; omega) (fun e he => oa e (List.mem_of_mem_take he)) (List.all_eq_true.2 fun e he => List.all_eq_true.1 ma e (List.mem_of_mem_take he))
  have t2 := V73 M (d + 1) (b.take k) (by rw [List.length_take]; omega) (fun e he => ob e (List.mem_of_mem_take he)) (List.all_eq_true.2 fun e he => List.all_eq_true.1 mb e (List.mem_of_mem_take he))
  rw [show d + 1 + 7 = d + 8 by omega] at t1 t2
  rw [txt_take a i hi, ← enL_take] at t1
  rw [txt_take b k hk, ← enL_take] at t2
  have wa := allW_en a
  have wb := allW_en b
  have la := enL_len a
  have lb := enL_len b
  have c1 : (0 : Int) ≤ (i : Int) := by omega
  have c2 : (0 : Int) ≤ (k : Int) := by omega
  have c3 : (i : Int) ≤ (a.length : Int) := by omega
  have c4 : (k : Int) ≤ (b.length : Int) := by omega
  have w1 : IntKind.i64.wrap ((i : Int) - 1) = (i : Int) - 1 := w64 (by omega) (by omega)
  have w2 : IntKind.i64.wrap ((k : Int) - 1) = (k : Int) - 1 := w64 (by omega) (by omega)
  rw [← la] at c3
  rw [← lb] at c4
  have u1 := unB_by ((textsL a).getD i [])
  have u2 := unB_by ((textsL b).getD k [])
  have l1 := byL_len ((textsL a).getD i [])
  have l2 := byL_len ((textsL b).getD k [])
  have k1 : List.take ((textsL a).getD i []).length (byL ((textsL a).getD i [])) = byL ((textsL a).getD i []) := List.take_of_length_le (by omega)
  have k2 : List.take ((textsL b).getD k []).length (byL ((textsL b).getD k [])) = byL ((textsL b).getD k []) := List.take_of_length_le (by omega)
  simp only [slZ, outZ, outT, row] at t1 t2 ⊢
  generalize chars ((textsL a).getD i []) = ca at *
  generalize chars ((textsL b).getD k []) = cb at *
  generalize (textsL a).getD i [] = x at *
  generalize (textsL b).getD k [] = y at *
  generalize byL x = bx at *
  generalize byL y = by' at *
  generalize x.length = nx at *
  generalize y.length = ny at *
  generalize enL a = xa at *
  generalize enL b = xb at *
  by_cases hc : ca = cb
  · subst hc
    by_cases p1 : 0 < i
    · have p1' : (0 : Int) < (i : Int) := by omega
      by_cases p2 : 0 < k
      · have p2' : (0 : Int) < (k : Int) := by omega
        simp -implicitDefEqProofs (maxSteps := 1000000) (disch := first | omega | rfl) [m44b0, t1, t2, u1, u2, l1, l2, k1, k2, wa, wb, c1, c2, c3, c4, w1, w2, p1, p1', p2, p2', k_fin3, KP, KV, box, KS, getS, getO, gS, zipN, dropW, takeW, wds, stvs, sea, seaL, refs, refsL, refsEls, refsO, isPureEls, isPures, isPure, noExt, noExts, noExtEls, cellsL, ren, renL, renEls, keepO, keepS, keysO, refsS, refsOB, cntN, headC, setS, boxO, row, putW, putB, putB1, eNl, newOs, frz, renO, noExtO, zps, zp, two32, w64, -getElem?_pos]
      · have p2' : ¬ (0 : Int) < (k : Int) := by omega
        simp -implicitDefEqProofs (maxSteps := 1000000) (disch := first | omega | rfl) [m44b0, t1, t2, u1, u2, l1, l2, k1, k2, wa, wb, c1, c2, c3, c4, w1, w2, p1, p1', p2, p2', k_fin3, KP, KV, box, KS, getS, getO, gS, zipN, dropW, takeW, wds, stvs, sea, seaL, refs, refsL, refsEls, refsO, isPureEls, isPures, isPure, noExt, noExts, noExtEls, cellsL, ren, renL, renEls, keepO, keepS, keysO, refsS, refsOB, cntN, headC, setS, boxO, row, putW, putB, putB1, eNl, newOs, frz, renO, noExtO, zps, zp, two32, w64, -getElem?_pos]
    · have p1' : ¬ (0 : Int) < (i : Int) := by omega
      simp -implicitDefEqProofs (maxSteps := 1000000) (disch := first | omega | rfl) [m44b0, t1, t2, u1, u2, l1, l2, k1, k2, wa, wb, c1, c2, c3, c4, w1, w2, p1, p1', k_fin3, KP, KV, box, KS, getS, getO, gS, zipN, dropW, takeW, wds, stvs, sea, seaL, refs, refsL, refsEls, refsO, isPureEls, isPures, isPure, noExt, noExts, noExtEls, cellsL, ren, renL, renEls, keepO, keepS, keysO, refsS, refsOB, cntN, headC, setS, boxO, row, putW, putB, putB1, eNl, newOs, frz, renO, noExtO, zps, zp, two32, w64, -getElem?_pos]
  · simp -implicitDefEqProofs (maxSteps := 1000000) (disch := first | omega | rfl) [m44b0, t1, t2, u1, u2, l1, l2, k1, k2, wa, wb, c1, c2, c3, c4, w1, w2, hc, k_fin3, KP, KV, box, KS, getS, getO, gS, zipN, dropW, takeW, wds, stvs, sea, seaL, refs, refsL, refsEls, refsO, isPureEls, isPures, isPure, noExt, noExts, noExtEls, cellsL, ren, renL, renEls, keepO, keepS, keysO, refsS, refsOB, cntN, headC, setS, boxO, row, putW, putB, putB1, eNl, newOs, frz, renO, noExtO, zps, zp, two32, w64, -getElem?_pos]
theorem loopv44 (M d : Nat) (a b : List En) (ha : a.length ≤ 264) (hb : b.length ≤ 264) (oa : ∀ e ∈ a, okE e) (ob : ∀ e ∈ b, okE e) (ma : a.all mayE = true) (mb : b.all mayE = true) (p : List Int × List Int) : ∀ (i k e : Nat), i ≤ a.length → k ≤ b.length → clT (textsL a) (textsL b) (i + 1) (k + 1) = some p →
    loopC (m44b0 (sem tab (M + 1000) (d + 8)) (M + 1000) []) (e + 1 + i) (slZ (enL a) (enL b) i k) [] = outZ (some p) := by
  intro i
  induction i with
  | zero =>
    intro k e hi hk hp
    rw [clT] at hp
    rw [Nat.add_zero, k_loop, stepv44 M d _ a b 0 k hi hk ha hb oa ob ma mb]
    cases hc : decide (chars ((textsL a).getD 0 []) = chars ((textsL b).getD k []))
    · rw [hc, cond_false] at hp
      injection hp with hp
      rw [← hp]; rfl
    · rw [hc, cond_true, clT] at hp
      exact absurd hp (by simp)
  | succ i ih =>
    intro k e hi hk hp
    rw [clT] at hp
    rw [← Nat.add_assoc, k_loop, stepv44 M d _ a b (i + 1) k hi hk ha hb oa ob ma mb]
    cases hc : decide (chars ((textsL a).getD (i + 1) []) = chars ((textsL b).getD k []))
    · rw [hc, cond_false] at hp
      injection hp with hp
      rw [← hp]; rfl
    · rw [hc, cond_true] at hp
      cases k with
      | zero => rw [clT] at hp; exact absurd hp (by simp)
      | succ k =>
        have := ih k e (by omega) (by omega) hp
        rw [decide_eq_true (show 0 < i + 1 by omega), decide_eq_true (show 0 < k + 1 by omega)]
        rw [Bool.and_self, Bool.and_self, cond_true, show ((i + 1 : Nat) : Int) - 1 = (i : Int) by omega, show ((k + 1 : Nat) : Int) - 1 = (k : Int) by omega, this]
noncomputable def clashS (a b : List En) : Option R := cond (a.all mayE && (b.all mayE && (decide (hdL h0 a = hdL h0 b) && !(sameL a b)))) (outZ (clT (textsL a) (textsL b) (a.length + 1) (b.length + 1))) (outCl none)
set_option maxHeartbeats 16000000 in
theorem V44 (M d : Nat) (a b : List En) (ha : a.length ≤ 264) (hb : b.length ≤ 264) (hoa : ∀ e ∈ a, okE e) (hob : ∀ e ∈ b, okE e) : sem tab (M + 1000) (d + 9) 44 [.l false (enL a), .l false (enL b)] [] = clashS a b := by
  rw [sem_succ tab (M + 1000) (d + 8) 44 m44 rfl]
  have h38 := V38 M (d + 1) a ha hoa
  have h38' := V38 M (d + 1) b hb hob
  have h42 := V42 M (d + 7) a b (by omega)
  rw [show d + 1 + 7 = d + 8 by omega] at h38 h38'
  rw [show d + 7 + 1 = d + 8 by omega] at h42
  have ea := enL_len a
  have eb := enL_len b
  have qa := eqIs_dec' (hdL h0 a) (hdL h0 b) (by rw [hdL_len _ _ h0_len, hdL_len _ _ h0_len])
  have la := uL_len (hdL h0 a)
  rw [hdL_len _ _ h0_len] at la
  have lb := uL_len (hdL h0 b)
  rw [hdL_len _ _ h0_len] at lb
  have hz := hz32
  have hzl : (List.replicate 32 (PV.i IntKind.u8 0)).length = 32 := rfl
  have ra := recL_len a h0
  have rb := recL_len b h0
  have ta := byL_len (recL h0 a)
  have tb := byL_len (recL h0 b)
  have ka : List.take (recL h0 a).length (byL (recL h0 a)) = byL (recL h0 a) := List.take_of_length_le (by omega)
  have kb : List.take (recL h0 b).length (byL (recL h0 b)) = byL (recL h0 b) := List.take_of_length_le (by omega)
  simp only [clashS]
  by_cases hg : (a.all mayE && (b.all mayE && (decide (hdL h0 a = hdL h0 b) && !(sameL a b)))) = true
  · rw [hg, cond_true]
    simp only [Bool.and_eq_true, decide_eq_true_eq, Bool.not_eq_true'] at hg
    obtain ⟨ma, mb, hh, hs⟩ := hg
    rw [ma] at h38
    rw [mb] at h38'
    rw [decide_eq_true hh] at qa
    rw [hs] at h42
    have ci := clash_ind a b ma mb hoa hob a.length b.length (Nat.le_refl _) (Nat.le_refl _) (by rw [List.take_length, List.take_length]; exact hh)
    rw [List.take_length, List.take_length] at ci
    rcases ci with ⟨g1, g2⟩ | ⟨x, y, g1, _⟩
    · rw [(sameL_iff a b).2 g2] at hs
      exact absurd hs (by simp)
    · have hlp := loopv44 M d a b ha hb hoa hob ma mb (x, y) a.length b.length (M + 999 - a.length) (Nat.le_refl _) (Nat.le_refl _) g1
      rw [show M + 999 - a.length + 1 + a.length = M + 1000 by omega] at hlp
      rw [g1, ← hlp]
      clear hlp
      simp only [yesPut, cond_true, row] at h38 h38'
      simp only [slZ]
      rw [← ea, ← eb]
      clear hz hh
      generalize (recL h0 a).length = n at *
      generalize byL (recL h0 a) = q at *
      generalize uL (hdL h0 a) = u at *
      generalize (recL h0 b).length = n' at *
      generalize byL (recL h0 b) = q' at *
      generalize uL (hdL h0 b) = u' at *
      generalize enL a = xa at *
      generalize enL b = xb at *
      generalize hz' : List.replicate 32 (PV.i .u8 0) = zz at *
      simp -implicitDefEqProofs (maxSteps := 1000000) (disch := first | omega | rfl) [m44, h38, h38', h42, qa, hz', hzl, la, lb, ta, tb, ka, kb, box, KV, KS, getS, getO, gS, zipN, dropW, takeW, wds, stvs, sea, seaL, refs, refsL, refsEls, refsO, isPureEls, isPures, isPure, noExt, noExts, noExtEls, cellsL, ren, renL, renEls, keepO, keepS, keysO, refsS, refsOB, cntN, headC, setS, boxO, row, putW, putB, putB1, eNl, newOs, frz, renO, noExtO, zps, zp, two32, w64, -getElem?_pos]
  · have hg' : (a.all mayE && (b.all mayE && (decide (hdL h0 a = hdL h0 b) && !(sameL a b)))) = false := by simpa using hg
    rw [hg', cond_false]
    generalize a.all mayE = ma at *
    generalize b.all mayE = mb at *
    generalize decide (hdL h0 a = hdL h0 b) = q0 at *
    generalize sameL a b = s0 at *
    simp only [yesPut, noPut, outCl, row, ← hz] at h38 h38' ⊢
    clear hz
    generalize (recL h0 a).length = n at *
    generalize byL (recL h0 a) = q at *
    generalize uL (hdL h0 a) = u at *
    generalize (recL h0 b).length = n' at *
    generalize byL (recL h0 b) = q' at *
    generalize uL (hdL h0 b) = u' at *
    generalize enL a = xa at *
    generalize enL b = xb at *
    generalize hz' : List.replicate 32 (PV.i .u8 0) = zz at *
    cases ma
    · cases mb <;> simp only [cond_true, cond_false] at h38 h38' <;> simp -implicitDefEqProofs (maxSteps := 1000000) (disch := first | omega | rfl) [m44, h38, h38', h42, hz', hzl, la, lb, ta, tb, ka, kb, k_fin3, box, KV, KS, getS, getO, gS, zipN, dropW, takeW, wds, stvs, sea, seaL, refs, refsL, refsEls, refsO, isPureEls, isPures, isPure, noExt, noExts, noExtEls, cellsL, ren, renL, renEls, keepO, keepS, keysO, refsS, refsOB, cntN, headC, setS, boxO, row, putW, putB, putB1, eNl, newOs, frz, renO, noExtO, zps, zp, two32, w64, -getElem?_pos]
    · cases mb
      · simp only [cond_true, cond_false] at h38 h38'
        simp -implicitDefEqProofs (maxSteps := 1000000) (disch := first | omega | rfl) [m44, h38, h38', h42, hz', hzl, la, lb, ta, tb, ka, kb, k_fin3, box, KV, KS, getS, getO, gS, zipN, dropW, takeW, wds, stvs, sea, seaL, refs, refsL, refsEls, refsO, isPureEls, isPures, isPure, noExt, noExts, noExtEls, cellsL, ren, renL, renEls, keepO, keepS, keysO, refsS, refsOB, cntN, headC, setS, boxO, row, putW, putB, putB1, eNl, newOs, frz, renO, noExtO, zps, zp, two32, w64, -getElem?_pos]
      · simp only [cond_true, cond_false] at h38 h38'
        cases q0
        · simp -implicitDefEqProofs (maxSteps := 1000000) (disch := first | omega | rfl) [m44, h38, h38', h42, qa, hz', hzl, la, lb, ta, tb, ka, kb, k_fin3, box, KV, KS, getS, getO, gS, zipN, dropW, takeW, wds, stvs, sea, seaL, refs, refsL, refsEls, refsO, isPureEls, isPures, isPure, noExt, noExts, noExtEls, cellsL, ren, renL, renEls, keepO, keepS, keysO, refsS, refsOB, cntN, headC, setS, boxO, row, putW, putB, putB1, eNl, newOs, frz, renO, noExtO, zps, zp, two32, w64, -getElem?_pos]
        · rw [show s0 = true by simpa using hg'] at h42
          simp -implicitDefEqProofs (maxSteps := 1000000) (disch := first | omega | rfl) [m44, h38, h38', h42, qa, hz', hzl, la, lb, ta, tb, ka, kb, k_fin3, box, KV, KS, getS, getO, gS, zipN, dropW, takeW, wds, stvs, sea, seaL, refs, refsL, refsEls, refsO, isPureEls, isPures, isPure, noExt, noExts, noExtEls, cellsL, ren, renL, renEls, keepO, keepS, keysO, refsS, refsOB, cntN, headC, setS, boxO, row, putW, putB, putB1, eNl, newOs, frz, renO, noExtO, zps, zp, two32, w64, -getElem?_pos]
end
end Go.Proofs.YtcimkkcajkmfoaaDoor
