import Derived.Test.YtmhpkdcnhgmblaaDoorPgA
set_option linter.all false
set_option linter.unusedSimpArgs false
set_option linter.unusedVariables false
namespace Go.Proofs.YtmhpkdcnhgmblaaDoor
open Go
section
def lenV (L : Int) : Int := IntKind.u64.wrap (IntKind.u64.wrap L * 8)
def lenB (v : Int) (k : Nat) : Int := IntKind.u8.wrap (v.fdiv (2 ^ min (56 - 8 * (k : Int)).toNat IntKind.u64.bits))
set_option maxHeartbeats 4000000 in
theorem mid24e (r z : List PV) (b t : List (List PV)) (L : Int) (h : ((t.length : Int).tmod 64) = 56) :
    ∀ (N d : Nat) (g : SL → OB → Option R), m84b2 (sem tab N d) N [] g (sl24 t.length) (ob24 [.blob 8 r, .l false b, .i .i64 L] z t) = loopC (m84b1 (sem tab N d) N []) N (sl24b t.length (lenV L) 0) (ob24 [.blob 8 r, .l false b, .i .i64 L] z t) := by
  have ht : List.take t.length t = t := List.take_length
  intro N d g
  simp -implicitDefEqProofs (maxSteps := 1000000) (disch := first | omega | rfl) [m84b2, sl24, ob24, sl24b, box, h, ht, KS, getS, getO, gS, dropW, wds, stvs, refs, refsL, refsEls, refsO, isPureEls, isPures, isPure, noExt, noExts, noExtEls, cellsL, keepO, keepS, keysO, refsS, refsOB, cntN, headC, setS, row, two32, -getElem?_pos]
  rfl
set_option maxHeartbeats 4000000 in
theorem step24e (r z : List PV) (b t : List (List PV)) (L v : Int) (k : Nat) (hk : k < 8) (hl : t.length ≤ 4294967295) :
    ∀ (N d : Nat) (g : SL → OB → Option R), m84b1 (sem tab N d) N [] g (sl24b t.length v k) (ob24 [.blob 8 r, .l false b, .i .i64 L] z t) = g (sl24b (t.length + 1) v (k + 1 : Nat)) (ob24 [.blob 8 r, .l false b, .i .i64 L] z (t ++ [[.i .u8 (lenB v k)]])) := by
  have c1 : (k : Int) < 8 := by omega
  have c2 : ¬ (56 - 8 * (k : Int) < 0) := by omega
  have h2 : t.length + 1 ≤ 4294967296 := by omega
  have h3 : ¬ (t.length + 1 ≤ t.length) := by omega
  have ht : List.take t.length t = t := List.take_length
  have w1 : IntKind.i64.wrap (56 - 8 * (k : Int)) = 56 - 8 * (k : Int) := w64 (by omega) (by omega)
  intro N d g
  simp -implicitDefEqProofs (maxSteps := 1000000) (disch := first | omega | rfl) [m84b1, sl24b, ob24, box, c1, c2, w1, h2, h3, ht, KS, getS, getO, gS, dropW, takeW, wds, stvs, refs, refsL, refsEls, refsO, isPureEls, isPures, isPure, noExt, noExts, noExtEls, cellsL, keepO, keepS, keysO, refsS, refsOB, cntN, headC, setS, boxO, row, two32, w64, -getElem?_pos]
  rfl
theorem lenB_eq (L : Int) (hL : 0 ≤ L ∧ L ≤ 1048576) : lenR L = [lenB (lenV L) 0, lenB (lenV L) 1, lenB (lenV L) 2, lenB (lenV L) 3, lenB (lenV L) 4, lenB (lenV L) 5, lenB (lenV L) 6, lenB (lenV L) 7] := by
  have hv : lenV L = 8 * L := by
    unfold lenV
    simp only [IntKind.wrap_u64]; omega
  have e : ∀ k : Nat, k < 8 → lenB (8 * L) k = (8 * L) / (2 ^ (56 - 8 * k)) % 256 := by
    intro k hk
    unfold lenB
    rw [Int.fdiv_eq_ediv_of_nonneg _ (Int.le_of_lt (Int.pow_pos (by omega))), IntKind.wrap_u8, show (56 - 8 * (k : Int)).toNat = 56 - 8 * k by omega, show min (56 - 8 * k) IntKind.u64.bits = 56 - 8 * k from Nat.min_eq_left (by show 56 - 8 * k ≤ 64; omega)]
  rw [hv, e 0 (by omega), e 1 (by omega), e 2 (by omega), e 3 (by omega), e 4 (by omega), e 5 (by omega), e 6 (by omega), e 7 (by omega)]
  simp only [lenR, Int.tdiv_eq_ediv_of_nonneg (show (0 : Int) ≤ 8 * L by omega), IntKind.wrap_u8]
  rw [Int.tmod_eq_emod_of_nonneg (by omega), Int.tmod_eq_emod_of_nonneg (by omega), Int.tmod_eq_emod_of_nonneg (by omega)]
  simp only [List.cons.injEq, and_true]
  refine ⟨?_, ?_, ?_, ?_, ?_, ?_, ?_, ?_⟩ <;> omega
set_option maxHeartbeats 4000000 in
theorem run24e (M d M' : Nat) (rs ts : List Int) (b : List (List PV)) (L : Int) (z : List PV) (hL : 0 ≤ L ∧ L ≤ 1048576) (hr : rs.length = 8) (hl : ts.length ≤ 57500) :
    loopC (m84b1 (sem tab (M + 1000) (d + 5)) (M + 1000) []) (M' + 9) (sl24b ts.length (lenV L) 0) (ob24 [.blob 8 (wL rs), .l false b, .i .i64 L] z (byL ts)) = loopC (m84b0 (sem tab (M + 1000) (d + 5)) (M + 1000) []) (M + 1000) (sl24a (wL (rounds rs (ts ++ lenR L)).1) 0) (ob24a z (List.replicate 32 (.i .u8 0))) := by
  have st : ∀ (k : Nat) (us : List Int) (g : SL → OB → Option R), k < 8 → us.length ≤ 57600 → m84b1 (sem tab (M + 1000) (d + 5)) (M + 1000) [] g (sl24b us.length (lenV L) (k : Nat)) (ob24 [.blob 8 (wL rs), .l false b, .i .i64 L] z (byL us)) = g (sl24b (us ++ [lenB (lenV L) k]).length (lenV L) (k + 1 : Nat)) (ob24 [.blob 8 (wL rs), .l false b, .i .i64 L] z (byL (us ++ [lenB (lenV L) k]))) := by
    intro k us g hk hu
    have h := step24e (wL rs) z b (byL us) L (lenV L) k hk (by rw [byL_len]; omega) (M + 1000) (d + 5) g
    rw [byL_len, byL_app1] at h
    rw [List.length_append]; exact h
  have e : (0 : Int) = ((0 : Nat) : Int) := rfl
  rw [e, show M' + 9 = (M' + 8) + 1 from rfl, k_loop, st 0 _ _ (by omega) (by omega)]
  rw [k_loop, st (0 + 1) _ _ (by omega) (by simp; omega)]
  rw [k_loop, st (0 + 1 + 1) _ _ (by omega) (by simp; omega)]
  rw [k_loop, st (0 + 1 + 1 + 1) _ _ (by omega) (by simp; omega)]
  rw [k_loop, st (0 + 1 + 1 + 1 + 1) _ _ (by omega) (by simp; omega)]
  rw [k_loop, st (0 + 1 + 1 + 1 + 1 + 1) _ _ (by omega) (by simp; omega)]
  rw [k_loop, st (0 + 1 + 1 + 1 + 1 + 1 + 1) _ _ (by omega) (by simp; omega)]
  rw [k_loop, st (0 + 1 + 1 + 1 + 1 + 1 + 1 + 1) _ _ (by omega) (by simp; omega)]
  rw [k_loop]
  have h := mid24b M d (loopC (m84b1 (sem tab (M + 1000) (d + 5)) (M + 1000) []) M') rs (ts ++ lenR L) b L (lenV L) z hr (by rw [List.length_append, show (lenR L).length = 8 from rfl]; omega)
  rw [lenB_eq L hL] at h ⊢
  simp only [List.append_assoc, List.cons_append, List.nil_append, Nat.zero_add, Nat.reduceAdd] at h ⊢
  exact h
end
section
def oB (x : Int) (n : Nat) : Int := IntKind.u8.wrap (x.fdiv (2 ^ min n IntKind.u32.bits))
def oR0 (x : Int) : Int := IntKind.u8.wrap (x.tdiv 16777216)
def oR1 (x : Int) : Int := IntKind.u8.wrap ((x.tdiv 65536).tmod 256)
def oR2 (x : Int) : Int := IntKind.u8.wrap ((x.tdiv 256).tmod 256)
def oR3 (x : Int) : Int := IntKind.u8.wrap (x.tmod 256)
theorem oR_eq (x : Int) (h : 0 ≤ x ∧ x < 4294967296) : oR0 x = oB x 24 ∧ oR1 x = oB x 16 ∧ oR2 x = oB x 8 ∧ oR3 x = IntKind.u8.wrap x := by
  have e : ∀ n : Nat, n ≤ 32 → oB x n = x / 2 ^ n % 256 := by
    intro n hn
    unfold oB
    rw [show min n IntKind.u32.bits = n from Nat.min_eq_left hn, Int.fdiv_eq_ediv_of_nonneg _ (Int.le_of_lt (Int.pow_pos (by omega))), IntKind.wrap_u8]
  rw [e 24 (by omega), e 16 (by omega), e 8 (by omega)]
  simp only [oR0, oR1, oR2, oR3, Int.tdiv_eq_ediv_of_nonneg h.1, IntKind.wrap_u8]
  rw [Int.tmod_eq_emod_of_nonneg (by omega), Int.tmod_eq_emod_of_nonneg (by omega), Int.tmod_eq_emod_of_nonneg (by omega)]
  refine ⟨?_, ?_, ?_, ?_⟩ <;> omega
set_option maxHeartbeats 4000000 in
theorem step24o (r z o : List PV) (k : Nat) (x : Int) (hk : k < 8) (hx : r[k]? = some (.i .u32 x)) (ho : o.length = 32) :
    ∀ (N d : Nat) (g : SL → OB → Option R), m84b0 (sem tab N d) N [] g (sl24a r k) (ob24a z o) = g (sl24a r (k + 1 : Nat)) (ob24a z ((((o.set (4 * k) (.i .u8 (oB x 24))).set (4 * k + 1) (.i .u8 (oB x 16))).set (4 * k + 2) (.i .u8 (oB x 8))).set (4 * k + 3) (.i .u8 (IntKind.u8.wrap x)))) := by
  have c1 : (k : Int) < 8 := by omega
  have c3 : (0 : Int) ≤ k := by omega
  have c4 : (0 : Int) ≤ 4 * (k : Int) := by omega
  have c5 : (0 : Int) ≤ 4 * (k : Int) + 1 := by omega
  have c6 : (0 : Int) ≤ 4 * (k : Int) + 2 := by omega
  have c7 : (0 : Int) ≤ 4 * (k : Int) + 3 := by omega
  have d4 : 4 * (k : Int) < 32 := by omega
  have d5 : 4 * (k : Int) + 1 < 32 := by omega
  have d6 : 4 * (k : Int) + 2 < 32 := by omega
  have d7 : 4 * (k : Int) + 3 < 32 := by omega
  have t4 : (4 * (k : Int)).toNat = 4 * k := by omega
  have t5 : (4 * (k : Int) + 1).toNat = 4 * k + 1 := by omega
  have t6 : (4 * (k : Int) + 2).toNat = 4 * k + 2 := by omega
  have t7 : (4 * (k : Int) + 3).toNat = 4 * k + 3 := by omega
  have b4 : 4 * k < 32 := by omega
  have b5 : 4 * k + 1 < 32 := by omega
  have b6 : 4 * k + 2 < 32 := by omega
  have b7 : 4 * k + 3 < 32 := by omega
  intro N d g
  simp -implicitDefEqProofs (maxSteps := 1000000) (disch := first | omega | rfl) [m84b0, sl24a, ob24a, box, xV, hx, ho, c1, c3, c4, c5, c6, c7, d4, d5, d6, d7, t4, t5, t6, t7, b4, b5, b6, b7, KS, getS, getO, gS, dropW, takeW, wds, sea, seaL, refs, refsL, refsEls, refsO, keepO, keepS, keysO, refsS, refsOB, cntN, headC, putW, w64, -getElem?_pos]
  rfl
set_option maxHeartbeats 4000000 in
theorem step25o (r z o : List PV) (k : Nat) (x : Int) (hk : k < 8) (hx : r[k]? = some (.i .u32 x)) (ho : o.length = 32) (hr : 0 ≤ x ∧ x < 4294967296) :
    ∀ (N d : Nat) (g : SL → OB → Option R), m87b0 (sem tab N d) N [] g (sl25a k) (ob25a r z o) = g (sl25a (k + 1 : Nat)) (ob25a r z ((((o.set (4 * k) (.i .u8 (oR0 x))).set (4 * k + 1) (.i .u8 (oR1 x))).set (4 * k + 2) (.i .u8 (oR2 x))).set (4 * k + 3) (.i .u8 (oR3 x)))) := by
  have c1 : (k : Int) < 8 := by omega
  have c3 : (0 : Int) ≤ k := by omega
  have c4 : (0 : Int) ≤ 4 * (k : Int) := by omega
  have c5 : (0 : Int) ≤ 4 * (k : Int) + 1 := by omega
  have c6 : (0 : Int) ≤ 4 * (k : Int) + 2 := by omega
  have c7 : (0 : Int) ≤ 4 * (k : Int) + 3 := by omega
  have d4 : 4 * (k : Int) < 32 := by omega
  have d5 : 4 * (k : Int) + 1 < 32 := by omega
  have d6 : 4 * (k : Int) + 2 < 32 := by omega
  have d7 : 4 * (k : Int) + 3 < 32 := by omega
  have t4 : (4 * (k : Int)).toNat = 4 * k := by omega
  have t5 : (4 * (k : Int) + 1).toNat = 4 * k + 1 := by omega
  have t6 : (4 * (k : Int) + 2).toNat = 4 * k + 2 := by omega
  have t7 : (4 * (k : Int) + 3).toNat = 4 * k + 3 := by omega
  have b4 : 4 * k < 32 := by omega
  have b5 : 4 * k + 1 < 32 := by omega
  have b6 : 4 * k + 2 < 32 := by omega
  have b7 : 4 * k + 3 < 32 := by omega
  have w2 : IntKind.u32.wrap (x.tdiv 16777216) = x.tdiv 16777216 := by rw [Int.tdiv_eq_ediv_of_nonneg hr.1]; exact w32 (by omega) (by omega)
  have w3 : IntKind.u32.wrap (x.tdiv 65536) = x.tdiv 65536 := by rw [Int.tdiv_eq_ediv_of_nonneg hr.1]; exact w32 (by omega) (by omega)
  have w4 : IntKind.u32.wrap (x.tdiv 256) = x.tdiv 256 := by rw [Int.tdiv_eq_ediv_of_nonneg hr.1]; exact w32 (by omega) (by omega)
  intro N d g
  simp -implicitDefEqProofs (maxSteps := 1000000) (disch := first | omega | rfl) [m87b0, sl25a, ob25a, box, oR0, oR1, oR2, oR3, hx, ho, c1, c3, c4, c5, c6, c7, d4, d5, d6, d7, t4, t5, t6, t7, b4, b5, b6, b7, w2, w3, w4, KS, getS, getO, gS, dropW, takeW, wds, sea, seaL, refs, refsL, refsEls, refsO, keepO, keepS, keysO, refsS, refsOB, cntN, headC, putW, w64, -getElem?_pos]
set_option maxHeartbeats 4000000 in
theorem end25a (N d : Nat) (g : SL → OB → Option R) (r z o : List PV) : m87b0 (sem tab N d) N [] g (sl25a 8) (ob25a r z o) = some (.agg [.blob 32 o], []) := by
  simp -implicitDefEqProofs (maxSteps := 1000000) (disch := first | omega | rfl) [m87b0, sl25a, ob25a, box, KS, getS, getO, gS, dropW, takeW, wds, sea, seaL, refs, refsL, putW, w64, -getElem?_pos]
theorem loopJ24 (rs : List Int) (hr : rs.length = 8) (hb : ∀ y ∈ rs, 0 ≤ y ∧ y < 4294967296) (z z' : List PV) : ∀ (n k : Nat) (o : List Int), k + n = 8 → o.length = 32 → (∀ y ∈ o, 0 ≤ y ∧ y ≤ 255) → ∃ o' : List Int, o'.length = 32 ∧ (∀ y ∈ o', 0 ≤ y ∧ y ≤ 255) ∧
    (∀ N d M : Nat, loopC (m84b0 (sem tab N d) N []) (M + 1 + n) (sl24a (wL rs) k) (ob24a z (uL o)) = some (.agg [.blob 32 (uL o')], [])) ∧
    ∀ N d M : Nat, loopC (m87b0 (sem tab N d) N []) (M + 1 + n) (sl25a k) (ob25a (wL rs) z' (uL o)) = some (.agg [.blob 32 (uL o')], []) := by
  intro n
  induction n with
  | zero =>
    intro k o hk ho hor
    have : k = 8 := by omega
    subst this
    exact ⟨o, ho, hor, fun N d M => by rw [Nat.add_zero, k_loop]; exact end24a N d _ _ _ _, fun N d M => by rw [Nat.add_zero, k_loop]; exact end25a N d _ _ _ _⟩
  | succ n ih =>
    intro k o hk ho hor
    have hk8 : k < rs.length := by omega
    have hx : (wL rs)[k]? = some (.i .u32 rs[k]) := by rw [wL_get, List.getElem?_eq_getElem hk8]; rfl
    have hrg := hb _ (List.getElem_mem hk8)
    have h1 := step24o (wL rs) z (uL o) k rs[k] (by omega) hx (by rw [uL_len]; exact ho)
    have h2 := step25o (wL rs) z' (uL o) k rs[k] (by omega) hx (by rw [uL_len]; exact ho) hrg
    obtain ⟨e0, e1, e2, e3⟩ := oR_eq rs[k] hrg
    rw [e0, e1, e2, e3] at h2
    rw [uL_set, uL_set, uL_set, uL_set] at h1 h2
    obtain ⟨o', i1, i0, i2, i3⟩ := ih (k + 1) ((((o.set (4 * k) (oB rs[k] 24)).set (4 * k + 1) (oB rs[k] 16)).set (4 * k + 2) (oB rs[k] 8)).set (4 * k + 3) (IntKind.u8.wrap rs[k])) (by omega) (by simpa using ho) (fun y hy => by
      have w8r : ∀ x : Int, 0 ≤ IntKind.u8.wrap x ∧ IntKind.u8.wrap x ≤ 255 := fun x => by rw [IntKind.wrap_u8]; omega
      rcases List.mem_or_eq_of_mem_set hy with hy | rfl
      · rcases List.mem_or_eq_of_mem_set hy with hy | rfl
        · rcases List.mem_or_eq_of_mem_set hy with hy | rfl
          · rcases List.mem_or_eq_of_mem_set hy with hy | rfl
            · exact hor y hy
            · exact w8r _
          · exact w8r _
        · exact w8r _
      · exact w8r _)
    refine ⟨o', i1, i0, fun N d M => ?_, fun N d M => ?_⟩
    · rw [show M + 1 + (n + 1) = (M + 1 + n) + 1 by omega, k_loop, h1]
      exact i2 N d M
    · rw [show M + 1 + (n + 1) = (M + 1 + n) + 1 by omega, k_loop, h2]
      exact i3 N d M
end
section
theorem z24c (rs : List Int) (b : List (List PV)) (L : Int) (z : List PV) : ∀ (n : Nat) (ts : List Int), (ts.length + n) % 64 = 56 → n < 64 → ts.length + n ≤ 57500 → ∀ M d M' : Nat, loopC (m84b2 (sem tab (M + 1000) (d + 5)) (M + 1000) []) (M' + 1 + n) (sl24 ts.length) (ob24 [.blob 8 (wL rs), .l false b, .i .i64 L] z (byL ts)) = loopC (m84b1 (sem tab (M + 1000) (d + 5)) (M + 1000) []) (M + 1000) (sl24b (ts ++ List.replicate n 0).length (lenV L) 0) (ob24 [.blob 8 (wL rs), .l false b, .i .i64 L] z (byL (ts ++ List.replicate n 0))) := by
  intro n
  induction n with
  | zero =>
    intro ts h _ hl M d M'
    have htm : ((ts.length : Int).tmod 64) = 56 := by
      rw [Int.tmod_eq_emod_of_nonneg (by omega)]; omega
    have hv := mid24e (wL rs) z b (byL ts) L (by rw [byL_len]; exact htm) (M + 1000) (d + 5) (loopC (m84b2 (sem tab (M + 1000) (d + 5)) (M + 1000) []) M')
    rw [byL_len] at hv
    rw [Nat.add_zero, k_loop, hv, List.replicate_zero, List.append_nil]
  | succ n ih =>
    intro ts h hn hl M d M'
    have htm : ((ts.length : Int).tmod 64) ≠ 56 := by
      rw [Int.tmod_eq_emod_of_nonneg (by omega)]; omega
    have hy := step24c (M + 1000) (d + 5) (loopC (m84b2 (sem tab (M + 1000) (d + 5)) (M + 1000) []) (M' + 1 + n)) (wL rs) z z b (byL ts) L (by rw [byL_len]; exact htm) (by rw [byL_len]; omega)
    rw [byL_len] at hy
    rw [show M' + 1 + (n + 1) = (M' + 1 + n) + 1 by omega, k_loop, hy, byL_app1]
    have := ih (ts ++ [0]) (by simp only [List.length_append, List.length_singleton]; omega) (by omega) (by simp only [List.length_append, List.length_singleton]; omega) M d M'
    rw [List.append_assoc, show [(0 : Int)] ++ List.replicate n 0 = List.replicate (n + 1) 0 from rfl] at this
    rw [show (ts ++ [(0 : Int)]).length = ts.length + 1 by simp] at this
    exact this
theorem z25c (rs : List Int) (b : List (List PV)) (L : Int) (z : List PV) (hL : 0 ≤ L ∧ L ≤ 1048576) : ∀ (n : Nat) (ts : List Int), (ts.length + n) % 64 = 56 → n < 64 → ts.length + n ≤ 57500 → ∀ N d M' : Nat, loopC (m87b2 (sem tab N d) N []) (M' + 1 + n) (sl25 ts.length) (ob25 [.blob 8 (wL rs), .l false b, .i .i64 L] z (byL ts)) = loopC (m87b1 (sem tab N d) N []) N (sl25r 0 ((ts ++ List.replicate n 0).length + 8)) (ob25r (wL rs) z (byL (ts ++ List.replicate n 0 ++ lenR L))) := by
  intro n
  induction n with
  | zero =>
    intro ts h _ hl N d M'
    have htm : ((ts.length : Int).tmod 64) = 56 := by
      rw [Int.tmod_eq_emod_of_nonneg (by omega)]; omega
    have hv := mid25c N d (loopC (m87b2 (sem tab N d) N []) M') (wL rs) z b (byL ts) L hL (by rw [byL_len]; exact htm) (by rw [byL_len]; omega)
    rw [byL_len, byL_app] at hv
    rw [Nat.add_zero, k_loop, hv, List.replicate_zero, List.append_nil]
  | succ n ih =>
    intro ts h hn hl N d M'
    have htm : ((ts.length : Int).tmod 64) ≠ 56 := by
      rw [Int.tmod_eq_emod_of_nonneg (by omega)]; omega
    have hy := step25c N d (loopC (m87b2 (sem tab N d) N []) (M' + 1 + n)) (wL rs) z b (byL ts) L (by rw [byL_len]; exact htm) (by rw [byL_len]; omega)
    rw [byL_len] at hy
    rw [show M' + 1 + (n + 1) = (M' + 1 + n) + 1 by omega, k_loop, hy, byL_app1]
    have := ih (ts ++ [0]) (by simp only [List.length_append, List.length_singleton]; omega) (by omega) (by simp only [List.length_append, List.length_singleton]; omega) N d M'
    rw [List.append_assoc ts, show [(0 : Int)] ++ List.replicate n 0 = List.replicate (n + 1) 0 from rfl] at this
    rw [show (ts ++ [(0 : Int)]).length = ts.length + 1 by simp] at this
    exact this
theorem lenR_range (L : Int) : ∀ n ∈ lenR L, 0 ≤ n ∧ n ≤ 255 := by
  intro n hn
  simp only [lenR, List.mem_cons, List.not_mem_nil, or_false] at hn
  rcases hn with rfl | rfl | rfl | rfl | rfl | rfl | rfl | rfl <;> first | omega | (rw [IntKind.wrap_u8]; omega)
theorem uL_inj : ∀ {a b : List Int}, uL a = uL b → a = b
  | [], [], _ => rfl
  | [], y :: b, h => by simp [uL] at h
  | x :: a, [], h => by simp [uL] at h
  | x :: a, y :: b, h => by
    simp only [uL, List.map_cons, List.cons.injEq, PV.i.injEq, true_and] at h
    rw [h.1, uL_inj h.2]
set_option maxHeartbeats 4000000 in
theorem J24 (ns xs : List Int) (L : Int) (hn : ns.length = 8) (hb : ∀ y ∈ ns, 0 ≤ y ∧ y < 4294967296) (hx : ∀ n ∈ xs, 0 ≤ n ∧ n ≤ 255) : ∃ o : List Int, o.length = 32 ∧ (∀ y ∈ o, 0 ≤ y ∧ y ≤ 255) ∧
    (∀ M d : Nat, sem tab (M + 1000) (d + 6) 84 [hashV ns false xs L] [] = some (.agg [.blob 32 (uL o)], [])) ∧
    ∀ M d : Nat, sem tab (M + 1000) (d + 4) 87 [hashV ns false xs L] [] = some (.agg [.blob 32 (uL o)], []) := by
  by_cases hm : mayB xs.length L = true
  · obtain ⟨hL0, hL1, hx64⟩ : 0 ≤ L ∧ L ≤ 1048576 ∧ xs.length < 64 := by
      simp [mayB] at hm
      obtain ⟨h0, h1, h2⟩ := hm
      rw [Int.tmod_eq_emod_of_nonneg h0] at h2; exact ⟨h0, h1, by omega⟩
    obtain ⟨k, hk, hp⟩ := pad_of (xs ++ [128]).length
    have hT : ∀ n ∈ xs ++ [128] ++ List.replicate k 0 ++ lenR L, 0 ≤ n ∧ n ≤ 255 := by
      intro n hn
      simp only [List.mem_append, List.mem_singleton, List.mem_replicate] at hn
      rcases hn with ((h | h) | h) | h
      · exact hx n h
      · omega
      · omega
      · exact lenR_range L n h
    have hlen : (xs ++ [128] ++ List.replicate k 0 ++ lenR L).length = xs.length + 1 + k + 8 := by
      simp only [List.length_append, List.length_singleton, List.length_replicate, show (lenR L).length = 8 from rfl]
    rw [List.length_append, List.length_singleton] at hp
    obtain ⟨rl, _⟩ := rounds_len _ ns (xs ++ [128] ++ List.replicate k 0 ++ lenR L) (Nat.le_refl _) hn
    have rr := rounds_range _ ns (xs ++ [128] ++ List.replicate k 0 ++ lenR L) (Nat.le_refl _) hn hb hT
    obtain ⟨o, h1, h0, h2, h3⟩ := loopJ24 _ rl rr (List.replicate 32 (.i .u8 0)) (List.replicate 32 (.i .u8 0)) 8 0 (List.replicate 32 0) rfl (by simp) (fun y hy => by rw [(List.mem_replicate.1 hy).2]; omega)
    refine ⟨o, h1, h0, fun M d => ?_, fun M d => ?_⟩
    · have a1 := z24c ns (byL xs) L (List.replicate 32 (.i .u8 0)) k (xs ++ [128]) (by simp only [List.length_append, List.length_singleton]; omega) hk (by simp only [List.length_append, List.length_singleton]; omega) M d (M + 999 - k)
      rw [show M + 999 - k + 1 + k = (M + 991) + 9 by omega] at a1
      have a2 := run24e M d (M + 991) ns (xs ++ [128] ++ List.replicate k 0) (byL xs) L (List.replicate 32 (.i .u8 0)) ⟨hL0, hL1⟩ hn (by simp only [List.length_append, List.length_singleton, List.length_replicate]; omega)
      rw [show M + 1000 = (M + 991) + 9 by omega] at a1 a2 ⊢
      rw [a2] at a1
      have a3 := h2 ((M + 991) + 9) (d + 5) (M + 991)
      rw [show M + 991 + 1 + 8 = (M + 991) + 9 by omega, ← zero32] at a3
      have h2 := a1.trans a3
      rw [sem_succ tab (M + 991 + 9) (d + 5) 84 m84 rfl]
      have h23 := L23 (M + 991 + 9) (d + 4) ns xs L
      rw [hm] at h23
      have h39 := L39 (M + 991 + 9) (d + 4) xs (by omega)
      have hlx := byL_len xs
      rw [← byL_app1] at h2
      rw [List.length_append, ← hlx] at h2
      rw [← hlx] at h39 hx64
      simp only [hashV_wL] at h23 ⊢
      generalize byL xs = a at *
      generalize wL ns = r at *
      generalize hz : List.replicate 32 (PV.i IntKind.u8 0) = zz at *
      have ht : List.take a.length a = a := List.take_length
      have q1 : a.length + 1 ≤ 4294967296 := by omega
      have q2 : ¬ (a.length + 1 ≤ a.length) := by omega
      simp only [sl24, ob24, box, row, List.length_singleton] at h2
      simp -implicitDefEqProofs (maxSteps := 1000000) (disch := first | omega | rfl) [m84, hz, h23, h39, ht, q1, q2, KS, getS, getO, gS, zipN, dropW, takeW, wds, stvs, sea, seaL, refs, refsL, refsEls, refsO, isPureEls, isPures, isPure, noExt, noExts, noExtEls, cellsL, ren, keepO, keepS, keysO, refsS, refsOB, cntN, headC, setS, boxO, row, putW, newOs, renO, noExtO, two32, -getElem?_pos]
      exact h2
    · have a1 := z25c ns (byL xs) L (List.replicate 32 (.i .u8 0)) ⟨hL0, hL1⟩ k (xs ++ [128]) (by simp only [List.length_append, List.length_singleton]; omega) hk (by simp only [List.length_append, List.length_singleton]; omega) (M + 935 + 65) (d + 3) (M + 999 - k)
      rw [show M + 999 - k + 1 + k = M + 935 + 65 by omega] at a1
      have hj : (xs ++ [128] ++ List.replicate k 0).length + 8 = 64 * ((xs.length + 1 + k + 8) / 64) := by
        simp only [List.length_append, List.length_singleton, List.length_replicate]; omega
      have a2 := loop25r (xs ++ [128] ++ List.replicate k 0 ++ lenR L) (List.replicate 32 (.i .u8 0)) hT ((xs.length + 1 + k + 8) / 64) 0 ns (M + 935) d (M + 999 - (xs.length + 1 + k + 8) / 64) (by rw [hlen]; omega) hn
      rw [show M + 999 - (xs.length + 1 + k + 8) / 64 + 1 + (xs.length + 1 + k + 8) / 64 = M + 935 + 65 by omega, List.drop_zero, ← hj] at a2
      have a3 := h3 (M + 935 + 65) (d + 3) (M + 991)
      rw [show M + 991 + 1 + 8 = M + 935 + 65 by omega, ← zero32] at a3
      have h3 := (a1.trans a2).trans a3
      rw [show M + 1000 = M + 935 + 65 by omega]
      rw [sem_succ tab (M + 935 + 65) (d + 3) 87 m87 rfl]
      have h17 := L17 (M + 935 + 65) (d + 2) ns xs L
      rw [hm] at h17
      have hlx := byL_len xs
      have fx := flat_by xs
      have wx := allW_by xs
      rw [← byL_app1] at h3
      rw [List.length_append, ← hlx] at h3
      rw [← hlx] at hx64
      simp only [hashV_wL] at h17 ⊢
      generalize byL xs = a at *
      generalize wL ns = r at *
      generalize hz : List.replicate 32 (PV.i IntKind.u8 0) = zz at *
      have ht : List.take a.length a = a := List.take_length
      have q0 : a.length ≤ 4294967296 := by omega
      have q1 : a.length + 1 ≤ 4294967296 := by omega
      have q2 : ¬ (a.length + 1 ≤ a.length) := by omega
      simp only [sl25, ob25, box, row, List.length_singleton] at h3
      simp -implicitDefEqProofs (maxSteps := 1000000) (disch := first | omega | rfl) [m87, hz, h17, fx, wx, ht, q0, q1, q2, KS, getS, getO, gS, zipN, dropW, takeW, wds, stvs, sea, seaL, refs, refsL, refsEls, refsO, isPureEls, isPures, isPure, noExt, noExts, noExtEls, cellsL, ren, keepO, keepS, keysO, refsS, refsOB, cntN, headC, setS, boxO, row, putW, two32, -getElem?_pos]
      exact h3
  · have hm : mayB xs.length L = false := by simpa using hm
    obtain ⟨o, ho, h24⟩ := E24 ns xs L hn
    have : uL o = List.replicate 32 (.i .u8 0) := by
      have h := h24 0 0
      rw [sem_succ tab (0 + 1000) (0 + 5) 84 m84 rfl] at h
      have h23 := L23 (0 + 1000) (0 + 4) ns xs L
      rw [hm] at h23
      simp only [hashV_wL] at h23 h
      generalize byL xs = a at *
      generalize wL ns = r at *
      generalize hz : List.replicate 32 (PV.i IntKind.u8 0) = zz at *
      simp -implicitDefEqProofs (maxSteps := 1000000) (disch := first | omega | rfl) [m84, hz, h23, KS, getS, getO, gS, zipN, dropW, takeW, wds, stvs, sea, seaL, refs, refsL, isPureEls, isPures, isPure, noExt, noExts, noExtEls, cellsL, ren, boxO, putW, -getElem?_pos] at h
      exact h.symm
    have ho0 : o = List.replicate 32 0 := by
      have e : uL o = uL (List.replicate 32 0) := by rw [this, zero32]
      exact uL_inj e
    refine ⟨o, ho, fun y hy => by rw [ho0] at hy; rw [(List.mem_replicate.1 hy).2]; omega, h24, fun M d => ?_⟩
    rw [this, sem_succ tab (M + 1000) (d + 3) 87 m87 rfl]
    have h17 := L17 (M + 1000) (d + 2) ns xs L
    rw [hm] at h17
    simp only [hashV_wL] at h17 ⊢
    generalize byL xs = a at *
    generalize wL ns = r at *
    generalize hz : List.replicate 32 (PV.i IntKind.u8 0) = zz at *
    simp -implicitDefEqProofs (maxSteps := 1000000) (disch := first | omega | rfl) [m87, hz, h17, KS, getS, getO, gS, zipN, dropW, takeW, wds, stvs, sea, seaL, refs, refsL, isPureEls, isPures, isPure, noExt, noExts, noExtEls, cellsL, ren, boxO, row, putW, two32, -getElem?_pos]
theorem L25 (M d : Nat) (ns xs : List Int) (L : Int) (hn : ns.length = 8) (hb : ∀ y ∈ ns, 0 ≤ y ∧ y < 4294967296) (hx : ∀ n ∈ xs, 0 ≤ n ∧ n ≤ 255) : sem tab (M + 1000) (d + 4) 87 [hashV ns false xs L] [] = some (.agg [.blob 32 (uL (endI ns xs L))], []) := by
  obtain ⟨o, h1, h0, h2, h3⟩ := J24 ns xs L hn hb hx
  have e := (h2 0 0).symm.trans (L24 0 0 ns xs L hn)
  have e : uL o = uL (endI ns xs L) := by
    injection e with e; injection e with e; injection e with e; injection e with e; injection e with e
  rw [← e]; exact h3 M d
theorem endI_range (ns xs : List Int) (L : Int) (hn : ns.length = 8) (hb : ∀ y ∈ ns, 0 ≤ y ∧ y < 4294967296) (hx : ∀ n ∈ xs, 0 ≤ n ∧ n ≤ 255) : ∀ y ∈ endI ns xs L, 0 ≤ y ∧ y ≤ 255 := by
  obtain ⟨o, h1, h0, h2, h3⟩ := J24 ns xs L hn hb hx
  have e := (h2 0 0).symm.trans (L24 0 0 ns xs L hn)
  have e : uL o = uL (endI ns xs L) := by
    injection e with e; injection e with e; injection e with e; injection e with e; injection e with e
  rw [← uL_inj e]; exact h0
end
section
theorem nFirst_range : ∀ y ∈ nFirst, 0 ≤ y ∧ y < 4294967296 := by decide
theorem rounds_rest : ∀ (n : Nat) (rs xs : List Int), xs.length ≤ n → (∀ n ∈ xs, 0 ≤ n ∧ n ≤ 255) → ∀ y ∈ (rounds rs xs).2, 0 ≤ y ∧ y ≤ 255 := by
  intro n
  induction n with
  | zero =>
    intro rs xs h hb
    rw [rounds_short (by omega)]; exact hb
  | succ n ih =>
    intro rs xs h hb
    by_cases hx : xs.length < 64
    · rw [rounds_short hx]; exact hb
    · rw [rounds_long hx]
      exact ih _ _ (by simp; omega) (fun n hn => hb n (List.mem_of_mem_drop hn))
set_option maxHeartbeats 4000000 in
theorem L27 (M d : Nat) (ys : List Int) (h : ys.length ≤ 57600) (hb : ∀ n ∈ ys, 0 ≤ n ∧ n ≤ 255) : sem tab (M + 1000) (d + 5) 73 [.l false (byL ys)] [] = some (.agg [.blob 32 (uL (endI (rounds nFirst ys).1 (rounds nFirst ys).2 ys.length))], []) := by
  rw [sem_succ tab (M + 1000) (d + 4) 73 m73 rfl]
  have h22 := L22 (M + 1000) (d + 3)
  have h20 := L20 M d nFirst [] ys 0 rfl may_zero (by omega) (by simpa using h) (by simp) hb
  rw [List.nil_append, Int.zero_add] at h20
  have hb2 : ∀ n ∈ (rounds nFirst ys).2, 0 ≤ n ∧ n ≤ 255 := rounds_rest _ nFirst ys (Nat.le_refl _) hb
  have h25 := L25 M d (rounds nFirst ys).1 (rounds nFirst ys).2 ys.length (rounds_len _ nFirst ys (Nat.le_refl _) rfl).1 (rounds_range _ nFirst ys (Nat.le_refl _) rfl nFirst_range hb) hb2
  have hy := byL_len ys
  have hb : byL [] = [] := rfl
  rw [← hy] at h h20 h25 ⊢
  have n1 : ¬ ((byL ys).length : Int) > 1048576 := by omega
  have n2 : ¬ 1048576 < ((byL ys).length : Int) := by omega
  simp only [hashV_wL, hb] at h22 h20 h25 ⊢
  generalize byL (rounds nFirst ys).2 = q at *
  generalize wL (rounds nFirst ys).1 = r2 at *
  generalize wL nFirst = r at *
  generalize uL (endI _ _ _) = o at *
  generalize byL ys = b at *
  generalize hz : List.replicate 32 (PV.i IntKind.u8 0) = zz at *
  simp -implicitDefEqProofs (maxSteps := 1000000) (disch := first | omega | rfl) [m73, hz, h22, h20, h25, n1, KS, getS, getO, gS, zipN, dropW, takeW, wds, sea, seaL, refs, refsL, noExt, noExts, ren, renL, boxO, putW, -getElem?_pos]
end
section
theorem rev_ind {Q : List Int → Prop} (h0 : Q []) (h1 : ∀ l c, Q l → Q (l ++ [c])) (l : List Int) : Q l := by
  have key : ∀ r : List Int, Q r.reverse := by
    intro r
    induction r with
    | nil => exact h0
    | cons c r ih => rw [List.reverse_cons]; exact h1 _ _ ih
  have := key l.reverse
  rwa [List.reverse_reverse] at this
def val (l : List Int) : Int := l.foldl (fun a c => a * 256 + c) 0
theorem val_app (l : List Int) (c : Int) : val (l ++ [c]) = val l * 256 + c := by simp [val]
theorem val_range : ∀ (l : List Int), (∀ x ∈ l, 0 ≤ x ∧ x ≤ 255) → 0 ≤ val l ∧ val l < 256 ^ l.length := by
  refine rev_ind (fun _ => by simp [val]) fun l c ih h => ?_
  obtain ⟨h1, h2⟩ := ih fun x hx => h x (by simp [hx])
  have hc := h c (by simp)
  rw [val_app, List.length_append, List.length_singleton, Int.pow_succ]
  constructor <;> omega
theorem val_be : ∀ (k : Nat) (n : Int), val (be k n) = n % 256 ^ k
  | 0, n => by simp [be, val]
  | k + 1, n => by
    rw [be, val_app, val_be k, Int.pow_succ]
    have h1 := Int.emod_add_mul_ediv n 256
    have h2 : n % (256 ^ k * 256) = 256 * ((n / 256) % 256 ^ k) + n % 256 := by
      rw [Int.mul_comm]
      have := Int.emod_emod_of_dvd n (show (256 : Int) ∣ 256 * 256 ^ k from ⟨_, rfl⟩)
      have e := Int.mul_emod_mul_of_pos (n / 256) (256 ^ k) (show (0 : Int) < 256 by decide)
      have e2 : n % (256 * 256 ^ k) = (256 * (n / 256) + n % 256) % (256 * 256 ^ k) := by congr 1; omega
      rw [e2]
      have hpos : (0 : Int) < 256 ^ k := Int.pow_pos (by decide)
      have r := Int.emod_nonneg (n / 256) (Int.ne_of_gt hpos)
      have r2 := Int.emod_lt_of_pos (n / 256) hpos
      have m := Int.emod_nonneg n (show (256 : Int) ≠ 0 by decide)
      have m2 := Int.emod_lt_of_pos n (show (0 : Int) < 256 by decide)
      rw [Int.add_emod, e]
      have e3 : n % 256 % (256 * 256 ^ k) = n % 256 := Int.emod_eq_of_lt m (by omega)
      rw [e3]
      exact Int.emod_eq_of_lt (by omega) (by omega)
    omega
theorem be_val : ∀ (l : List Int), (∀ x ∈ l, 0 ≤ x ∧ x ≤ 255) → be l.length (val l) = l := by
  refine rev_ind (fun _ => rfl) fun l c ih h => ?_
  have hc := h c (by simp)
  rw [val_app, List.length_append, List.length_singleton, be]
  have e1 : (val l * 256 + c) / 256 = val l := by omega
  have e2 : (val l * 256 + c) % 256 = c := by omega
  rw [e1, e2, ih fun x hx => h x (by simp [hx])]
theorem shlor (a c : Int) (h0 : 0 ≤ a) (h1 : a < 2 ^ 56) (h2 : 0 ≤ c) (h3 : c < 256) : IntKind.u64.wrap (BitVec.ofInt 64 (IntKind.u64.wrap (a * 2 ^ 8)) ||| BitVec.ofInt 64 c).toNat = a * 256 + c := by
  obtain ⟨n, rfl⟩ : ∃ n : Nat, a = n := ⟨a.toNat, by omega⟩
  obtain ⟨m, rfl⟩ : ∃ n : Nat, c = n := ⟨c.toNat, by omega⟩
  have e : IntKind.u64.wrap ((n : Int) * 2 ^ 8) = (2 ^ 8 * n : Nat) := by rw [IntKind.wrap_u64]; omega
  rw [e, BitVec.ofInt_natCast, BitVec.ofInt_natCast, BitVec.toNat_or, BitVec.toNat_ofNat, BitVec.toNat_ofNat, Nat.mod_eq_of_lt (by omega), Nat.mod_eq_of_lt (by omega), ← Nat.two_pow_add_eq_or_of_lt (by omega), IntKind.wrap_u64]
  omega
end
section
theorem orV (a c : Int) (h0 : 0 ≤ a) (h1 : a < 2 ^ 56) (h2 : 0 ≤ c) (h3 : c < 256) : bi .or (.i .u64 (a * 256)) (.i .u64 c) = some (.i .u64 (a * 256 + c)) := by
  have h := shlor a c h0 h1 h2 h3
  have e : IntKind.u64.wrap (a * 2 ^ 8) = a * 256 := by rw [IntKind.wrap_u64]; omega
  rw [e] at h
  have : bi .or (.i .u64 (a * 256)) (.i .u64 c) = some (.i .u64 (IntKind.u64.wrap (BitVec.ofInt 64 (a * 256) ||| BitVec.ofInt 64 c).toNat)) := rfl
  rw [this, h]
theorem shlV (a : Int) (h0 : 0 ≤ a) (h1 : a < 2 ^ 56) : bi .shl (.i .u64 a) (.i .u64 8) = some (.i .u64 (a * 256)) := by
  have e : IntKind.u64.wrap (a * 2 ^ 8) = a * 256 := by rw [IntKind.wrap_u64]; omega
  have : bi .shl (.i .u64 a) (.i .u64 8) = some (.i .u64 (IntKind.u64.wrap (a * 2 ^ 8))) := rfl
  rw [this, e]
def slv (at' k : Nat) (acc : Int) (q : Bool) (xs : List (List PV)) (n i : Nat) : SL := [(1, .i .i64 at'), (2, .i .i64 k), (8, .i .u64 acc), (40, .l q xs), (41, .i .i64 n), (42, .i .i64 i)]
set_option maxHeartbeats 4000000 in
theorem stepv99 (Φ : Sem') (N : Nat) (g : SL → OB → Option R) (at' k : Nat) (acc c : Int) (q : Bool) (xs : List (List PV)) (n i : Nat) (hx : xs[i]? = some [.i .u8 c]) (hi : i < n) (hn : n < 1000000) (ha : 0 ≤ acc ∧ acc < 2 ^ 56) (hc : 0 ≤ c ∧ c ≤ 255) :
    m98b0 Φ N [] g (slv at' k acc q xs n i) [] = g (slv at' k (acc * 256 + c) q xs n (i + 1)) [] := by
  have w2 := w64n (i := i) (by omega)
  have w3 : IntKind.u64.wrap c = c := by rw [IntKind.wrap_u64]; omega
  have h1 := shlV acc ha.1 ha.2
  have h2 := orV acc c ha.1 ha.2 hc.1 (by omega)
  have ci : (i : Int) < n := by omega
  generalize hA : acc * 256 = A at *
  unfold m98b0
  rw [show gS (slv at' k acc q xs n i) 8 = .i .u64 acc from rfl]
  simp only [h1]
  simp -implicitDefEqProofs (maxSteps := 1000000) (disch := first | omega | rfl) [slv, hx, w2, w3, ci, h2, KS, getS, gS, wds, refs, keepO, keepS, keysO, refsS, refsOB, headC, -getElem?_pos]
end
section
set_option maxHeartbeats 4000000 in
theorem endv99 (Φ : Sem') (N : Nat) (g : SL → OB → Option R) (at' k : Nat) (acc : Int) (q : Bool) (xs : List (List PV)) (n : Nat) (h1 : at' < 1000000) (h2 : k < 1000000) :
    m98b0 Φ N [] g (slv at' k acc q xs n n) [] = some (.tup [.i .u64 acc, .i .i64 ((at' + k : Nat) : Int)], []) := by
  have w2 : IntKind.i64.wrap ((at' : Int) + k) = ((at' + k : Nat) : Int) := by rw [w64 (by omega) (by omega)]; omega
  simp -implicitDefEqProofs (maxSteps := 1000000) (disch := first | omega | rfl) [m98b0, slv, w2, KS, getS, gS, refs, keepO, keepS, keysO, refsS, refsOB, headC, -getElem?_pos]
theorem loopv99 (Φ : Sem') (N : Nat) (at' k : Nat) (q : Bool) (ys : List Int) (hy : ys.length ≤ 8) (hr : ∀ x ∈ ys, 0 ≤ x ∧ x ≤ 255) (h1 : at' < 1000000) (h2 : k < 1000000) : ∀ (j i e : Nat), i + j = ys.length →
    loopC (m98b0 Φ N []) (e + 1 + j) (slv at' k (val (ys.take i)) q (byL ys) ys.length i) [] = some (.tup [.i .u64 (val ys), .i .i64 ((at' + k : Nat) : Int)], []) := by
  intro j
  induction j with
  | zero =>
    intro i e h
    have : i = ys.length := by omega
    subst this
    rw [Nat.add_zero, k_loop, endv99 Φ N _ at' k _ q (byL ys) ys.length h1 h2, List.take_length]
  | succ j ih =>
    intro i e h
    have hi : i < ys.length := by omega
    have hv := val_range (ys.take i) (fun x hx => hr x (List.mem_of_mem_take hx))
    have hle : (ys.take i).length ≤ 7 := by rw [List.length_take]; omega
    have hp : (256 : Int) ^ (ys.take i).length ≤ 2 ^ 56 := (by decide : ∀ m ≤ 7, (256 : Int) ^ m ≤ 2 ^ 56) _ hle
    rw [← Nat.add_assoc, k_loop, stepv99 Φ N _ at' k _ ys[i] q (byL ys) ys.length i (by simp [byL, hi]) hi (by omega) ⟨hv.1, by omega⟩ (hr _ (List.getElem_mem hi))]
    rw [← val_app, List.take_append_getElem hi]
    exact ih (i + 1) e (by omega)
set_option maxHeartbeats 4000000 in
theorem V99 (N d : Nat) (q : Bool) (bs : List Int) (at' k : Nat) (hk : 1 ≤ k ∧ k ≤ 8) (hb : bs.length < 1000000) (hr : ∀ x ∈ bs, 0 ≤ x ∧ x ≤ 255) (hf : at' + k ≤ bs.length) :
    sem tab (N + 100) (d + 2) 98 [.l q (byL bs), .i .i64 at', .i .i64 k] [] = some (.tup [.i .u64 (val ((bs.drop at').take k)), .i .i64 ((at' + k : Nat) : Int)], []) := by
  rw [sem_succ tab (N + 100) (d + 1) 98 m98 rfl]
  have h146 := U146 (N + 100) d k
  have b1 : inB k 1 8 = true := by simp only [inB, Bool.and_eq_true, decide_eq_true_eq]; omega
  rw [b1] at h146
  have hyl : ((bs.drop at').take k).length = k := by rw [List.length_take, List.length_drop]; omega
  have h := loopv99 (sem tab (N + 100) (d + 1)) (N + 100) at' k q ((bs.drop at').take k) (by omega) (fun x hx => hr x (List.mem_of_mem_drop (List.mem_of_mem_take hx))) (by omega) (by omega) k 0 (N + 99 - k) (by omega)
  rw [show N + 99 - k + 1 + k = N + 100 by omega, hyl] at h
  have hby : byL ((bs.drop at').take k) = ((byL bs).take (at' + k)).drop at' := by simp [byL, List.map_take, List.map_drop, List.drop_take]
  have hbl := byL_len bs
  have hll : (((byL bs).take (at' + k)).drop at').length = k := by rw [← hby, byL_len, hyl]
  rw [hby] at h
  simp only [slv, List.take_zero, show val [] = 0 from rfl] at h ⊢
  rw [show ((0 : Nat) : Int) = 0 from rfl] at h
  generalize val ((bs.drop at').take k) = V at *
  have c1 : ¬ ((at' : Int) < 0) := by omega
  have c2 : ¬ ((at' : Int) > (byL bs).length) := by omega
  have c3 : ¬ (((byL bs).length : Int) - at' < k) := by omega
  have w1 : IntKind.i64.wrap (((byL bs).length : Int) - at') = ((byL bs).length : Int) - at' := w64 (by omega) (by omega)
  have w2 : IntKind.i64.wrap ((at' : Int) + k) = ((at' + k : Nat) : Int) := by rw [w64 (by omega) (by omega)]; omega
  have t1 : ((at' + k : Nat) : Int).toNat = at' + k := by omega
  have t2 : (at' : Int).toNat = at' := by omega
  have c4 : (at' : Int) ≤ ((at' + k : Nat) : Int) := by omega
  have c5 : ((at' + k : Nat) : Int) ≤ (byL bs).length := by omega
  have hw := allW_by bs
  rw [k_loop] at h
  generalize byL bs = b at *
  generalize hz : ((at' + k : Nat) : Int) = z at *
  simp -implicitDefEqProofs (maxSteps := 1000000) (disch := first | omega | rfl) [m98, h146, c1, c2, c3, w1, w2, t1, t2, c4, c5, hll, hw, h, KS, getS, gS, zipN, refs, refsL, noExt, ren, keepO, keepS, keysO, refsS, refsOB, cntN, headC, -getElem?_pos]
end
section
def slv93 (b : List (List PV)) (m at' : Nat) (ss : List (List PV)) (n i : Nat) : SL := [(0, .l false b), (6, .sl 119 0 0 m), (7, .i .i64 at'), (15, .l false ss), (16, .i .i64 n), (17, .i .i64 i)]
set_option maxHeartbeats 4000000 in
theorem stepv93 (N d : Nat) (g : SL → OB → Option R) (bs : List Int) (ss t : List (List PV)) (n i at' k : Nat) (hx : ss[i]? = some [.i .i64 k]) (hi : i < n) (hn : n ≤ 40) (hk : 1 ≤ k ∧ k ≤ 8) (hb : bs.length < 1000000) (hr : ∀ x ∈ bs, 0 ≤ x ∧ x ≤ 255) (hf : at' + k ≤ bs.length) (ht : t.length ≤ 100000) :
    m90b0 (sem tab (N + 100) (d + 2)) (N + 100) [] g (slv93 (byL bs) t.length at' ss n i) [(119, row t 1 true)] = g (slv93 (byL bs) (t ++ [[PV.i .u64 (val ((bs.drop at').take k))]]).length (at' + k) ss n (i + 1)) [(119, row (t ++ [[.i .u64 (val ((bs.drop at').take k))]]) 1 true)] := by
  have h99 := V99 N d false bs at' k hk hb hr hf
  have w2 := w64n (i := i) (by omega)
  have ci : (i : Int) < n := by omega
  have cz : (((at' + k : Nat) : Int) == -1) = false := by simp; omega
  generalize val ((bs.drop at').take k) = V at *
  generalize byL bs = b at *
  have t2 : List.take t.length t = t := List.take_length
  have e0 : t.length + 1 ≤ 4294967296 := by omega
  have e1 : ¬ (t.length + 1 ≤ t.length) := by omega
  have e3 : (t ++ [[PV.i .u64 V]]).length = t.length + 1 := by simp
  have e4 : List.take (t.length + 1) (t ++ [[PV.i .u64 V]]) = t ++ [[PV.i .u64 V]] := List.take_of_length_le (by omega)
  generalize hz : ((at' + k : Nat) : Int) = z at *
  simp -implicitDefEqProofs (maxSteps := 1000000) (disch := first | omega | rfl) [m90b0, slv93, hx, h99, w2, ci, cz, t2, e0, e1, e3, hz, KS, getS, getO, gS, wds, stvs, refs, refsL, isPureEls, isPures, isPure, noExt, noExts, noExtEls, cellsL, ren, renL, keepO, keepS, keysO, refsS, refsOB, cntN, headC, setS, row, two32, -getElem?_pos]
set_option maxHeartbeats 4000000 in
theorem endv93 (N d : Nat) (g : SL → OB → Option R) (bs : List Int) (ss t : List (List PV)) (n : Nat) :
    m90b0 (sem tab N d) N [] g (slv93 (byL bs) t.length bs.length ss n n) [(119, row t 1 true)] = some (.tup [.sl 0 0 0 t.length, .b true], [row t 1 true]) := by
  have hl := byL_len bs
  have t2 : List.take t.length t = t := List.take_length
  rw [← hl]
  generalize byL bs = b at *
  simp -implicitDefEqProofs (maxSteps := 1000000) (disch := first | omega | rfl) [m90b0, slv93, t2, KS, getS, getO, gS, stvs, refs, isPureEls, noExtEls, cellsL, cntN, row, -getElem?_pos]
def cuts (bs : List Int) : Nat → List Nat → List (List PV)
  | _, [] => []
  | at', k :: r => [.i .u64 (val ((bs.drop at').take k))] :: cuts bs (at' + k) r
def kL (ks : List Nat) : List (List PV) := ks.map fun k => [.i .i64 (k : Nat)]
def sumL : List Nat → Nat
  | [] => 0
  | k :: r => k + sumL r
theorem loopv93 (N d : Nat) (bs : List Int) (ks : List Nat) (hks : ∀ k ∈ ks, 1 ≤ k ∧ k ≤ 8) (hn : ks.length ≤ 40) (hb : bs.length < 1000000) (hr : ∀ x ∈ bs, 0 ≤ x ∧ x ≤ 255) : ∀ (j i e at' : Nat) (t : List (List PV)), i + j = ks.length → at' + sumL (ks.drop i) = bs.length → t.length = i →
    loopC (m90b0 (sem tab (N + 100) (d + 2)) (N + 100) []) (e + 1 + j) (slv93 (byL bs) t.length at' (kL ks) ks.length i) [(119, row t 1 true)] = some (.tup [.sl 0 0 0 (t ++ cuts bs at' (ks.drop i)).length, .b true], [row (t ++ cuts bs at' (ks.drop i)) 1 true]) := by
  intro j
  induction j with
  | zero =>
    intro i e at' t h hs ht
    have : i = ks.length := by omega
    subst this
    rw [List.drop_length] at hs ⊢
    simp only [sumL, Nat.add_zero] at hs
    subst hs
    rw [Nat.add_zero, k_loop, endv93]
    simp [cuts]
  | succ j ih =>
    intro i e at' t h hs ht
    have hi : i < ks.length := by omega
    have q1 := List.drop_eq_getElem_cons hi
    rw [q1] at hs ⊢
    simp only [sumL] at hs
    have hk := hks _ (List.getElem_mem hi)
    rw [← Nat.add_assoc, k_loop, stepv93 N d _ bs (kL ks) t ks.length i at' ks[i] (by simp [kL, hi]) hi hn hk hb hr (by omega) (by omega), ih (i + 1) e _ _ (by omega) (by omega) (by simp [ht])]
    simp only [cuts, List.append_assoc, List.cons_append, List.nil_append]
set_option maxHeartbeats 4000000 in
theorem V93 (N d : Nat) (bs : List Int) (ks : List Nat) (hks : ∀ k ∈ ks, 1 ≤ k ∧ k ≤ 8) (hn : ks.length ≤ 40) (hb : bs.length < 1000000) (hr : ∀ x ∈ bs, 0 ≤ x ∧ x ≤ 255) (hs : sumL ks = bs.length) :
    sem tab (N + 100) (d + 3) 90 [.l false (byL bs), .l false (kL ks)] [] = some (.tup [.sl 0 0 0 (cuts bs 0 ks).length, .b true], [row (cuts bs 0 ks) 1 true]) := by
  rw [sem_succ tab (N + 100) (d + 2) 90 m90 rfl]
  have h := loopv93 N d bs ks hks hn hb hr ks.length 0 (N + 99 - ks.length) 0 [] (by omega) (by simpa using hs) rfl
  rw [show N + 99 - ks.length + 1 + ks.length = N + 100 by omega, List.drop_zero, List.nil_append] at h
  have hl : (kL ks).length = ks.length := by simp [kL]
  have ci : ¬ ((ks.length : Int) > 40) := by omega
  rw [k_loop] at h
  simp only [slv93, List.length_nil] at h
  generalize cuts bs 0 ks = c at *
  generalize kL ks = m at *
  generalize byL bs = b at *
  rw [show ((0 : Nat) : Int) = 0 from rfl] at h
  simp only [row] at h ⊢
  simp -implicitDefEqProofs (maxSteps := 1000000) (disch := first | omega | rfl) [m90, hl, ci, h, KS, getS, getO, gS, zipN, refs, keepO, keepS, keysO, refsS, refsOB, cntN, headC, setS, row, -getElem?_pos]
end
section
structure En where
  kind : Int
  tick : Int
  epoch : Int
  user : Int
  sess : Int
  count : Int
  cmd : Int
  arg : Int
  code : Int
def enC (e : En) : List PV := [.i .i64 e.kind, .i .i64 e.tick, .i .i64 e.epoch, .i .i64 e.user, .i .u64 e.sess, .i .u64 e.count, .i .i64 e.cmd, .i .i64 e.arg, .i .i64 e.code]
theorem V83 (N d : Nat) (a c : Int) : sem tab N (d + 1) 57 [.i .i64 a, .i .i64 c] [] = some (.b (inB a 0 c), []) := by
  rw [sem_succ tab N d 57 m57 rfl]
  by_cases h : 0 ≤ a <;> simp -implicitDefEqProofs (disch := first | omega | rfl) [m57, inB, h, KS, getS, gS, zipN, refs, -getElem?_pos]
theorem cav83 (N d : Nat) (ob : OB) (n : Nat) (a c : Int) : cav (sem tab N (d + 1)) ob n false (.fn 57 [] []) [.i .i64 a, .i .i64 c] = some (.b (inB a 0 c), []) := by
  have h := V83 N d a c
  have e : reifies ob [PV.i .i64 a, .i .i64 c] = some ([.i .i64 a, .i .i64 c], []) := by simp [reifies, reify, reify0]
  have r : reach ob 20 (refsL [PV.i .i64 a, .i .i64 c]) [] = some [] := by simp [refsL, refs, reach]
  simp only [cav, List.nil_append, List.append_nil]
  unfold ca
  simp only [hand, Bool.false_eq_true, if_false, e, r, h]
  simp [back0, ren]
def szs : List Nat := [1, 4, 4, 1, 8, 8, 1, 2, 1]
theorem V62 (N d : Nat) : sem tab N (d + 1) 77 [] [] = some (.sl 0 0 0 9, [row (kL szs) 1 true]) := by
  rw [sem_succ tab N d 77 m77 rfl]
  simp -implicitDefEqProofs (disch := first | omega | rfl) [m77, kL, szs, KS, getO, zipN, wds, stvs, refs, isPureEls, isPures, isPure, noExt, noExts, noExtEls, cellsL, cntN, row, -getElem?_pos]
def mayE (e : En) : Bool := inB e.kind 0 4 && inB e.tick 0 1073741824 && inB e.epoch 0 1073741824 && inB e.user 0 255 && inB e.cmd 0 255 && inB e.arg 0 65535 && inB e.code 0 12
set_option maxHeartbeats 4000000 in
theorem V61 (N d : Nat) (e : En) : sem tab N (d + 2) 29 [.agg (enC e)] [] = some (.b (mayE e), []) := by
  rw [sem_succ tab N (d + 1) 29 m29 rfl]
  have h := fun ob n a c => cav83 N d ob n a c
  obtain ⟨e1, e2, e3, e4, e5, e6, e7, e8, e9⟩ := e
  simp only [mayE, enC]
  cases b1 : inB e1 0 4
  · simp -implicitDefEqProofs (maxSteps := 1000000) (disch := first | omega | rfl) [m29, h, b1, KS, getS, getO, gS, zipN, dropW, wds, refs, boxO, -getElem?_pos]
  cases b2 : inB e2 0 1073741824
  · simp -implicitDefEqProofs (maxSteps := 1000000) (disch := first | omega | rfl) [m29, h, b1, b2, KS, getS, getO, gS, zipN, dropW, wds, refs, boxO, -getElem?_pos]
  cases b3 : inB e3 0 1073741824
  · simp -implicitDefEqProofs (maxSteps := 1000000) (disch := first | omega | rfl) [m29, h, b1, b2, b3, KS, getS, getO, gS, zipN, dropW, wds, refs, boxO, -getElem?_pos]
  cases b4 : inB e4 0 255
  · simp -implicitDefEqProofs (maxSteps := 1000000) (disch := first | omega | rfl) [m29, h, b1, b2, b3, b4, KS, getS, getO, gS, zipN, dropW, wds, refs, boxO, -getElem?_pos]
  cases b5 : inB e7 0 255
  · simp -implicitDefEqProofs (maxSteps := 1000000) (disch := first | omega | rfl) [m29, h, b1, b2, b3, b4, b5, KS, getS, getO, gS, zipN, dropW, wds, refs, boxO, -getElem?_pos]
  cases b6 : inB e8 0 65535
  · simp -implicitDefEqProofs (maxSteps := 1000000) (disch := first | omega | rfl) [m29, h, b1, b2, b3, b4, b5, b6, KS, getS, getO, gS, zipN, dropW, wds, refs, boxO, -getElem?_pos]
  cases b7 : inB e9 0 12
  · simp -implicitDefEqProofs (maxSteps := 1000000) (disch := first | omega | rfl) [m29, h, b1, b2, b3, b4, b5, b6, b7, KS, getS, getO, gS, zipN, dropW, wds, refs, boxO, -getElem?_pos]
  · simp -implicitDefEqProofs (maxSteps := 1000000) (disch := first | omega | rfl) [m29, h, b1, b2, b3, b4, b5, b6, b7, KS, getS, getO, gS, zipN, dropW, wds, refs, boxO, -getElem?_pos]
end
section
def vAt (bs : List Int) (i k : Nat) : Int := val ((bs.drop i).take k)
def getE (bs : List Int) : En := ⟨vAt bs 0 1, vAt bs 1 4, vAt bs 5 4, vAt bs 9 1, vAt bs 10 8, vAt bs 18 8, vAt bs 26 1, vAt bs 27 2, vAt bs 29 1⟩
def zeE : En := ⟨0, 0, 0, 0, 0, 0, 0, 0, 0⟩
theorem vAt_range (bs : List Int) (hr : ∀ x ∈ bs, 0 ≤ x ∧ x ≤ 255) (i k : Nat) (hk : k ≤ 4) : 0 ≤ vAt bs i k ∧ vAt bs i k < 4294967296 := by
  have h := val_range ((bs.drop i).take k) (fun x hx => hr x (List.mem_of_mem_drop (List.mem_of_mem_take hx)))
  have hl : ((bs.drop i).take k).length ≤ 4 := by rw [List.length_take]; omega
  have hp : (256 : Int) ^ ((bs.drop i).take k).length ≤ 4294967296 := (by decide : ∀ m ≤ 4, (256 : Int) ^ m ≤ 4294967296) _ hl
  exact ⟨h.1, by unfold vAt; omega⟩
theorem cuts_szs (bs : List Int) : cuts bs 0 szs = [[.i .u64 (vAt bs 0 1)], [.i .u64 (vAt bs 1 4)], [.i .u64 (vAt bs 5 4)], [.i .u64 (vAt bs 9 1)], [.i .u64 (vAt bs 10 8)], [.i .u64 (vAt bs 18 8)], [.i .u64 (vAt bs 26 1)], [.i .u64 (vAt bs 27 2)], [.i .u64 (vAt bs 29 1)]] := rfl
set_option maxHeartbeats 8000000 in
theorem V82 (N d : Nat) (bs : List Int) (hl : bs.length = 30) (hr : ∀ x ∈ bs, 0 ≤ x ∧ x ≤ 255) :
    sem tab (N + 100) (d + 4) 76 [.l false (byL bs)] [] = some (.tup [.agg (enC (cond (mayE (getE bs)) (getE bs) zeE)), .b (mayE (getE bs))], []) := by
  rw [sem_succ tab (N + 100) (d + 3) 76 m76 rfl]
  have h62 := V62 (N + 100) (d + 2)
  have h93 := V93 N d bs szs (by decide) (by decide) (by omega) hr (by rw [hl]; rfl)
  have h61 := V61 (N + 100) (d + 1) (getE bs)
  rw [cuts_szs] at h93
  have r0 := vAt_range bs hr 0 1 (by decide)
  have r1 := vAt_range bs hr 1 4 (by decide)
  have r2 := vAt_range bs hr 5 4 (by decide)
  have r3 := vAt_range bs hr 9 1 (by decide)
  have r6 := vAt_range bs hr 26 1 (by decide)
  have r7 := vAt_range bs hr 27 2 (by decide)
  have r8 := vAt_range bs hr 29 1 (by decide)
  simp only [getE, enC] at h61 ⊢
  generalize vAt bs 0 1 = u0 at *
  generalize vAt bs 1 4 = u1 at *
  generalize vAt bs 5 4 = u2 at *
  generalize vAt bs 9 1 = u3 at *
  generalize vAt bs 10 8 = u4 at *
  generalize vAt bs 18 8 = u5 at *
  generalize vAt bs 26 1 = u6 at *
  generalize vAt bs 27 2 = u7 at *
  generalize vAt bs 29 1 = u8 at *
  have w0 : IntKind.i64.wrap u0 = u0 := w64 (by omega) (by omega)
  have w1 : IntKind.i64.wrap u1 = u1 := w64 (by omega) (by omega)
  have w2 : IntKind.i64.wrap u2 = u2 := w64 (by omega) (by omega)
  have w3 : IntKind.i64.wrap u3 = u3 := w64 (by omega) (by omega)
  have w6 : IntKind.i64.wrap u6 = u6 := w64 (by omega) (by omega)
  have w7 : IntKind.i64.wrap u7 = u7 := w64 (by omega) (by omega)
  have w8 : IntKind.i64.wrap u8 = u8 := w64 (by omega) (by omega)
  have kl : (kL szs).length = 9 := rfl
  have kt : List.take 9 (kL szs) = kL szs := rfl
  generalize kL szs = kk at *
  generalize byL bs = b at *
  simp only [row] at h62 h93
  generalize mayE ⟨u0, u1, u2, u3, u4, u5, u6, u7, u8⟩ = m at *
  cases m <;> simp -implicitDefEqProofs (maxSteps := 1000000) (disch := first | omega | rfl) [m76, zeE, h62, h93, h61, kl, kt, w0, w1, w2, w3, w6, w7, w8, KS, getS, getO, gS, zipN, dropW, takeW, wds, sea, seaL, refs, refsL, noExt, noExts, ren, renL, boxO, putW, putB, putB1, newOs, renO, noExtO, -getElem?_pos]
end
section
def encB (e : En) : List Int := be 1 e.kind ++ (be 4 e.tick ++ (be 4 e.epoch ++ (be 1 e.user ++ (be 8 e.sess ++ (be 8 e.count ++ (be 1 e.cmd ++ (be 2 e.arg ++ be 1 e.code)))))))
theorem encB_len (e : En) : (encB e).length = 30 := by simp [encB, be_len]
theorem be_vAt (bs : List Int) (hr : ∀ x ∈ bs, 0 ≤ x ∧ x ≤ 255) (i k : Nat) (h : i + k ≤ bs.length) : be k (vAt bs i k) = (bs.drop i).take k := by
  have hl : ((bs.drop i).take k).length = k := by rw [List.length_take, List.length_drop]; omega
  have := be_val ((bs.drop i).take k) (fun x hx => hr x (List.mem_of_mem_drop (List.mem_of_mem_take hx)))
  rw [hl] at this
  exact this
theorem enc_get (bs : List Int) (hl : bs.length = 30) (hr : ∀ x ∈ bs, 0 ≤ x ∧ x ≤ 255) : encB (getE bs) = bs := by
  have st : ∀ i k, (bs.drop i).take k ++ bs.drop (i + k) = bs.drop i := fun i k => by
    rw [← List.drop_drop]; exact List.take_append_drop _ _
  simp only [encB, getE]
  rw [be_vAt bs hr 0 1 (by omega), be_vAt bs hr 1 4 (by omega), be_vAt bs hr 5 4 (by omega), be_vAt bs hr 9 1 (by omega), be_vAt bs hr 10 8 (by omega), be_vAt bs hr 18 8 (by omega), be_vAt bs hr 26 1 (by omega), be_vAt bs hr 27 2 (by omega), be_vAt bs hr 29 1 (by omega)]
  have e : (bs.drop 29).take 1 = bs.drop 29 := List.take_of_length_le (by rw [List.length_drop]; omega)
  rw [e, st 27 2, st 26 1, st 18 8, st 10 8, st 9 1, st 5 4, st 1 4, st 0 1, List.drop_zero]
theorem vAt_app (a b c : List Int) (k : Nat) (h : b.length = k) : vAt (a ++ (b ++ c)) a.length k = val b := by
  subst h
  simp [vAt]
def okE (e : En) : Prop := 0 ≤ e.sess ∧ e.sess < 18446744073709551616 ∧ 0 ≤ e.count ∧ e.count < 18446744073709551616
theorem get_enc (e : En) (h : okE e) (hm : mayE e = true) : getE (encB e) = e := by
  obtain ⟨e1, e2, e3, e4, e5, e6, e7, e8, e9⟩ := e
  simp only [okE] at h
  simp only [mayE, inB, Bool.and_eq_true, decide_eq_true_eq] at hm
  have v : ∀ (i k : Nat) (n : Int) (a c : List Int), a.length = i → 0 ≤ n → n < 256 ^ k → vAt (a ++ (be k n ++ c)) i k = n := by
    intro i k n a c ha h0 h1
    subst ha
    rw [vAt_app a (be k n) c k (be_len k n), val_be, Int.emod_eq_of_lt h0 h1]
  have l := be_len
  simp only [getE, encB]
  have x1 := v 0 1 e1 [] (be 4 e2 ++ (be 4 e3 ++ (be 1 e4 ++ (be 8 e5 ++ (be 8 e6 ++ (be 1 e7 ++ (be 2 e8 ++ be 1 e9))))))) rfl (by omega) (by omega)
  have x2 := v 1 4 e2 (be 1 e1) (be 4 e3 ++ (be 1 e4 ++ (be 8 e5 ++ (be 8 e6 ++ (be 1 e7 ++ (be 2 e8 ++ be 1 e9)))))) (by simp [l]) (by omega) (by omega)
  have x3 := v 5 4 e3 (be 1 e1 ++ be 4 e2) (be 1 e4 ++ (be 8 e5 ++ (be 8 e6 ++ (be 1 e7 ++ (be 2 e8 ++ be 1 e9))))) (by simp [l]) (by omega) (by omega)
  have x4 := v 9 1 e4 (be 1 e1 ++ (be 4 e2 ++ be 4 e3)) (be 8 e5 ++ (be 8 e6 ++ (be 1 e7 ++ (be 2 e8 ++ be 1 e9)))) (by simp [l]) (by omega) (by omega)
  have x5 := v 10 8 e5 (be 1 e1 ++ (be 4 e2 ++ (be 4 e3 ++ be 1 e4))) (be 8 e6 ++ (be 1 e7 ++ (be 2 e8 ++ be 1 e9))) (by simp [l]) (by omega) (by omega)
  have x6 := v 18 8 e6 (be 1 e1 ++ (be 4 e2 ++ (be 4 e3 ++ (be 1 e4 ++ be 8 e5)))) (be 1 e7 ++ (be 2 e8 ++ be 1 e9)) (by simp [l]) (by omega) (by omega)
  have x7 := v 26 1 e7 (be 1 e1 ++ (be 4 e2 ++ (be 4 e3 ++ (be 1 e4 ++ (be 8 e5 ++ be 8 e6))))) (be 2 e8 ++ be 1 e9) (by simp [l]) (by omega) (by omega)
  have x8 := v 27 2 e8 (be 1 e1 ++ (be 4 e2 ++ (be 4 e3 ++ (be 1 e4 ++ (be 8 e5 ++ (be 8 e6 ++ be 1 e7)))))) (be 1 e9) (by simp [l]) (by omega) (by omega)
  have x9 := v 29 1 e9 (be 1 e1 ++ (be 4 e2 ++ (be 4 e3 ++ (be 1 e4 ++ (be 8 e5 ++ (be 8 e6 ++ (be 1 e7 ++ be 2 e8))))))) [] (by simp [l]) (by omega) (by omega)
  simp only [List.append_assoc, List.nil_append, List.append_nil] at x1 x2 x3 x4 x5 x6 x7 x8 x9
  rw [x1, x2, x3, x4, x5, x6, x7, x8, x9]
end
section
def slv34 (m i : Nat) : SL := [(4, .p 96 0 0 0 none), (5, .sl 111 0 0 m), (37, .sl 360 0 0 9), (38, .i .i64 9), (39, .i .i64 i)]
def obv34 (t kk : List (List PV)) (us : List PV) : OB := [(111, row t 2 true), (96, box [.blob 9 us] 9), (360, row kk 1 true)]
set_option maxHeartbeats 4000000 in
theorem stepv34 (N d : Nat) (g : SL → OB → Option R) (t kk : List (List PV)) (us : List PV) (i k : Nat) (n : Int) (hx : kk[i]? = some [.i .i64 k]) (hu : us[i]? = some (.i .u64 n)) (hi : i < 9) (hk : kk.length = 9) (hul : us.length = 9) (ht : t.length ≤ 100) :
    m61b0 (sem tab N d) N [] g (slv34 t.length i) (obv34 t kk us) = g (slv34 (t ++ [[PV.i .u64 n, .i .i64 k]]).length (i + 1)) (obv34 (t ++ [[.i .u64 n, .i .i64 k]]) kk us) := by
  have w2 := w64n (i := i) (by omega)
  have ci : (i : Int) < 9 := by omega
  have t2 : List.take t.length t = t := List.take_length
  have e0 : t.length + 1 ≤ 4294967296 := by omega
  have e1 : ¬ (t.length + 1 ≤ t.length) := by omega
  have e3 : (t ++ [[PV.i .u64 n, .i .i64 k]]).length = t.length + 1 := by simp
  have e4 : List.take (t.length + 1) (t ++ [[PV.i .u64 n, .i .i64 k]]) = t ++ [[.i .u64 n, .i .i64 k]] := List.take_of_length_le (by omega)
  simp -implicitDefEqProofs (maxSteps := 1000000) (disch := first | omega | rfl) [m61b0, slv34, obv34, box, hx, hu, hk, w2, ci, t2, e0, e1, e3, KS, getS, getO, gS, dropW, takeW, wds, stvs, refs, refsL, refsEls, refsO, isPureEls, isPures, isPure, noExt, noExts, noExtEls, cellsL, keepO, keepS, keysO, refsS, refsOB, cntN, headC, setS, row, putW, putB, putB1, two32, -getElem?_pos]
set_option maxHeartbeats 4000000 in
theorem endv34 (N d : Nat) (g : SL → OB → Option R) (kk : List (List PV)) (us : List PV) (l : List (Int × Nat)) (hl : l.length = 9) (ho : ∀ x ∈ l, okNu x) (hf : fitAll l = true) :
    m61b0 (sem tab (N + 100) (d + 3)) (N + 100) [] g (slv34 9 9) (obv34 (nuL l) kk us) = some (.tup [.sl 0 0 0 (catB l).length, .b true], [row (byL (catB l)) 1 true]) := by
  have h := U39c N d l (by omega) ho
  rw [hf, cond_true] at h
  have nl : (nuL l).length = 9 := by simp [nuL, hl]
  have nt : List.take 9 (nuL l) = nuL l := List.take_of_length_le (by omega)
  have bl := byL_len (catB l)
  rw [← bl] at h ⊢
  generalize byL (catB l) = c at *
  have ct : List.take c.length c = c := List.take_length
  generalize nuL l = t at *
  simp only [row] at h
  simp -implicitDefEqProofs (maxSteps := 1000000) (disch := first | omega | rfl) [m61b0, slv34, obv34, box, h, nl, nt, ct, KS, getS, getO, gS, takeW, stvs, refs, refsL, isPureEls, noExt, noExts, noExtEls, cellsL, ren, renL, cntN, row, putW, putB, putB1, newOs, renO, noExtO, w64, -getElem?_pos]
end
section
theorem loopv34 (N d : Nat) (l : List (Int × Nat)) (kk : List (List PV)) (us : List PV) (hk : ∀ (i : Nat) (x : Int × Nat), l[i]? = some x → kk[i]? = some [.i .i64 x.2] ∧ us[i]? = some (.i .u64 x.1)) (hkl : kk.length = 9) (hul : us.length = 9) (hl : l.length = 9) (ho : ∀ x ∈ l, okNu x) (hf : fitAll l = true) : ∀ (j i e : Nat), i + j = 9 →
    loopC (m61b0 (sem tab (N + 100) (d + 3)) (N + 100) []) (e + 1 + j) (slv34 i i) (obv34 (nuL (l.take i)) kk us) = some (.tup [.sl 0 0 0 (catB l).length, .b true], [row (byL (catB l)) 1 true]) := by
  intro j
  induction j with
  | zero =>
    intro i e h
    have : i = 9 := by omega
    subst this
    rw [Nat.add_zero, k_loop, List.take_of_length_le (by omega)]
    exact endv34 N d _ kk us l hl ho hf
  | succ j ih =>
    intro i e h
    have hi : i < l.length := by omega
    obtain ⟨h1, h2⟩ := hk i l[i] (List.getElem?_eq_getElem hi)
    have tl : (nuL (l.take i)).length = i := by simp [nuL]; omega
    have st := stepv34 (N + 100) (d + 3) (loopC (m61b0 (sem tab (N + 100) (d + 3)) (N + 100) []) (e + 1 + j)) (nuL (l.take i)) kk us i l[i].2 l[i].1 h1 h2 (by omega) hkl hul (by omega)
    have en : nuL (l.take i) ++ [[PV.i .u64 l[i].1, .i .i64 (l[i].2 : Nat)]] = nuL (l.take (i + 1)) := by
      rw [← List.take_append_getElem hi]
      unfold nuL
      rw [List.map_append]
      rfl
    have tl2 : (nuL (l.take (i + 1))).length = i + 1 := by simp [nuL]; omega
    rw [en, tl, tl2] at st
    rw [← Nat.add_assoc, k_loop, st]
    exact ih (i + 1) e (by omega)
end
section
def nuE (e : En) : List (Int × Nat) := [(e.kind, 1), (e.tick, 4), (e.epoch, 4), (e.user, 1), (e.sess, 8), (e.count, 8), (e.cmd, 1), (e.arg, 2), (e.code, 1)]
def usE (e : En) : List PV := [.i .u64 e.kind, .i .u64 e.tick, .i .u64 e.epoch, .i .u64 e.user, .i .u64 e.sess, .i .u64 e.count, .i .u64 e.cmd, .i .u64 e.arg, .i .u64 e.code]
theorem catB_nuE (e : En) : catB (nuE e) = encB e := by simp [catB, nuE, encB]
theorem fitAll_nuE (e : En) (hm : mayE e = true) : fitAll (nuE e) = true := by
  simp only [mayE, inB, Bool.and_eq_true, decide_eq_true_eq] at hm
  have z : ∀ (n m : Int), 0 ≤ n → n < m → n / m = 0 := fun n m h0 h1 => Int.ediv_eq_zero_of_lt h0 h1
  simp only [fitAll, nuE, fitsB]
  rw [z e.kind (256 ^ 1) (by omega) (by omega), z e.tick (256 ^ 4) (by omega) (by omega), z e.epoch (256 ^ 4) (by omega) (by omega), z e.user (256 ^ 1) (by omega) (by omega), z e.cmd (256 ^ 1) (by omega) (by omega), z e.arg (256 ^ 2) (by omega) (by omega), z e.code (256 ^ 1) (by omega) (by omega)]
  rfl
theorem okNu_nuE (e : En) (h : okE e) (hm : mayE e = true) : ∀ x ∈ nuE e, okNu x := by
  simp only [mayE, inB, Bool.and_eq_true, decide_eq_true_eq] at hm
  simp only [okE] at h
  intro x hx
  simp only [nuE, List.mem_cons, List.not_mem_nil, or_false] at hx
  rcases hx with rfl | rfl | rfl | rfl | rfl | rfl | rfl | rfl | rfl <;> simp only [okNu] <;> omega
end
section
set_option maxHeartbeats 8000000 in
theorem V34 (N d : Nat) (e : En) (h : okE e) : sem tab (N + 100) (d + 4) 61 [.agg (enC e)] [] = cond (mayE e) (some (.tup [.sl 0 0 0 30, .b true], [row (byL (encB e)) 1 true])) (some (.tup [.sl 0 0 0 0, .b false], [row [] 1 true])) := by
  rw [sem_succ tab (N + 100) (d + 3) 61 m61 rfl]
  have h61 := V61 (N + 100) (d + 1) e
  have h62 := V62 (N + 100) (d + 2)
  cases hm : mayE e
  · rw [hm] at h61
    simp only [enC] at h61 ⊢
    simp -implicitDefEqProofs (maxSteps := 1000000) (disch := first | omega | rfl) [m61, h61, KS, getS, getO, gS, zipN, dropW, takeW, wds, refs, refsL, noExt, ren, boxO, row, putW, putB, putB1, -getElem?_pos]
  · have hl := loopv34 N d (nuE e) (kL szs) (usE e) (fun i x hx => by
      match i, hx with
      | 0, hx | 1, hx | 2, hx | 3, hx | 4, hx | 5, hx | 6, hx | 7, hx | 8, hx => simp [nuE] at hx; subst hx; exact ⟨rfl, rfl⟩
      | n + 9, hx => simp [nuE] at hx) rfl rfl rfl (okNu_nuE e h hm) (fitAll_nuE e hm) 9 0 (N + 90) (by omega)
    rw [catB_nuE, encB_len, List.take_zero, show N + 90 + 1 + 9 = N + 100 by omega, k_loop] at hl
    rw [hm] at h61
    have hb := hm
    simp only [mayE, inB, Bool.and_eq_true, decide_eq_true_eq] at hb
    have w : ∀ n : Int, 0 ≤ n → n ≤ 1073741824 → IntKind.u64.wrap n = n := fun n h0 h1 => by rw [IntKind.wrap_u64]; omega
    have w1 := w e.kind (by omega) (by omega)
    have w2 := w e.tick (by omega) (by omega)
    have w3 := w e.epoch (by omega) (by omega)
    have w4 := w e.user (by omega) (by omega)
    have w7 := w e.cmd (by omega) (by omega)
    have w8 := w e.arg (by omega) (by omega)
    have w9 := w e.code (by omega) (by omega)
    have kl : (kL szs).length = 9 := rfl
    have kt : List.take 9 (kL szs) = kL szs := rfl
    simp only [enC] at h61 ⊢
    simp only [slv34, obv34, usE, nuL, List.map_nil, row, box] at hl
    rw [show ((0 : Nat) : Int) = 0 from rfl] at hl
    generalize kL szs = kk at *
    generalize byL (encB e) = b at *
    simp only [row] at h62
    simp -implicitDefEqProofs (maxSteps := 1000000) (disch := first | omega | rfl) [m61, h61, h62, w1, w2, w3, w4, w7, w8, w9, hl, KS, getS, getO, gS, zipN, dropW, takeW, wds, refs, refsL, refsEls, refsO, noExt, ren, keepO, keepS, keysO, refsS, refsOB, cntN, headC, setS, boxO, row, putW, putB, putB1, newOs, renO, noExtO, -getElem?_pos]
end
section
noncomputable def sumI' (ys : List Int) : List Int := endI (rounds nFirst ys).1 (rounds nFirst ys).2 ys.length
theorem V74 (N d : Nat) : sem tab N (d + 1) 72 [] [] = some (.sl 0 0 0 1, [row (byL [0]) 1 true]) := by
  rw [sem_succ tab N d 72 m72 rfl]
  simp -implicitDefEqProofs (disch := first | omega | rfl) [m72, byL, KS, getO, zipN, wds, stvs, refs, isPureEls, isPures, isPure, noExt, noExts, noExtEls, cellsL, cntN, row, -getElem?_pos]
set_option maxHeartbeats 4000000 in
theorem V45 (M d : Nat) : sem tab (M + 1000) (d + 8) 45 [] [] = some (.agg [.blob 32 (uL (sumI' [0]))], []) := by
  rw [sem_succ tab (M + 1000) (d + 7) 45 m45 rfl]
  have h1 := V74 (M + 1000) (d + 6)
  have h2 := L26 M d [0] (by decide)
  rw [show endI (rounds nFirst [0]).1 (rounds nFirst [0]).2 ([0] : List Int).length = sumI' [0] from rfl] at h2
  have bl : (byL [0]).length = 1 := rfl
  have bt : List.take 1 (byL [0]) = byL [0] := rfl
  generalize uL (sumI' [0]) = q at *
  generalize byL [0] = b at *
  simp only [row] at h1
  generalize hz : List.replicate 32 (PV.i .u8 0) = z at *
  simp -implicitDefEqProofs (maxSteps := 1000000) (disch := first | omega | rfl) [m45, h1, h2, bl, bt, hz, KS, getO, zipN, dropW, takeW, wds, sea, seaL, refs, refsL, noExt, noExts, ren, renL, boxO, putW, newOs, renO, noExtO, -getElem?_pos]
end
section
section
variable (o v i n m : Nat)
theorem k_slcAo (ob : OB) : slc ob (.arr n) (.p o 0 0 i none) none none none = slB o i 0 n (some 0) (some n) := rfl
theorem k_sv_bs : stv (.bs o v i n) = true := rfl
theorem k_c_bs : cellsOf (.bs o v i n) = [.bs o v i n] := rfl
theorem k_wd_bs : wd (.bs o v i n) = 1 := rfl
end
def KV := And.intro @k_slcA (And.intro @k_slcAo (And.intro @k_slB (And.intro @k_sv_bs (And.intro @k_c_bs @k_wd_bs))))
theorem sumI'_len (ys : List Int) : (sumI' ys).length = 32 := endI_len _ _ _ (rounds_len _ nFirst ys (Nat.le_refl _) rfl).1
theorem take_u (h : List Int) (hl : h.length = 32) : ((uL h).drop 0).take 32 = uL h := by
  rw [List.drop_zero]; exact List.take_of_length_le (by rw [uL_len]; omega)
theorem map_u (h : List Int) : (uL h).map (fun v => [v]) = byL h := by simp [uL, byL]
set_option maxHeartbeats 8000000 in
theorem V66 (M d : Nat) (h bs : List Int) (hl : h.length = 32) (hb : bs.length ≤ 50000) : sem tab (M + 1000) (d + 3) 79 [.agg [.blob 32 (uL h)], .l false (byL bs)] [] = some (.sl 0 0 0 (33 + bs.length), [row (byL ([1] ++ h ++ bs)) 1 true]) := by
  rw [sem_succ tab (M + 1000) (d + 2) 79 m79 rfl]
  have h38 := L38u M d 1 h bs (by intro e; rw [e] at hl; simp at hl) (by omega)
  have ul := uL_len h
  have tu := take_u h hl
  have mu := map_u h
  rw [hl, show 1 + 32 + bs.length = 33 + bs.length by omega] at h38
  rw [hl] at ul
  have bl := byL_len ([1] ++ h ++ bs)
  simp only [List.length_append, List.length_singleton, hl] at bl
  have tk : List.take (33 + bs.length) (byL ([1] ++ h ++ bs)) = byL ([1] ++ h ++ bs) := List.take_of_length_le (by omega)
  have cl : 33 + bs.length ≤ (byL ([1] ++ h ++ bs)).length := by omega
  have tu0 : (uL h).take 32 = uL h := by rw [← List.drop_zero (l := uL h)]; exact tu
  generalize byL ([1] ++ h ++ bs) = w at *
  generalize byL bs = c at *
  generalize byL h = b at *
  generalize uL h = u at *
  simp -implicitDefEqProofs (maxSteps := 1000000) (disch := first | omega | rfl) [m79, h38, ul, tu0, mu, tk, cl, KV, KS, getS, getO, gS, zipN, dropW, wds, stvs, refs, refsL, isPureEls, isPures, isPure, noExt, noExts, noExtEls, cellsL, ren, cntN, boxO, row, newOs, renO, noExtO, -getElem?_pos]
end
section
noncomputable def linkH (h : List Int) (e : En) : List Int := sumI' ([1] ++ h ++ encB e)
theorem linkH_len (h : List Int) (e : En) : (linkH h e).length = 32 := sumI'_len _
def zero32L : List Int := List.replicate 32 0
theorem L26' (M d : Nat) (ys : List Int) (h : ys.length ≤ 57600) : sem tab (M + 1000) (d + 7) 71 [.l false (byL ys)] [] = some (.agg [.blob 32 (uL (sumI' ys))], []) := L26 M d ys h
noncomputable def linkC (h : List Int) (e : En) : List Int := cond (mayE e) (linkH h e) zero32L
set_option maxHeartbeats 8000000 in
theorem V36 (M d : Nat) (h : List Int) (e : En) (hl : h.length = 32) (ho : okE e) : sem tab (M + 1000) (d + 8) 62 [.agg [.blob 32 (uL h)], .agg (enC e)] [] = some (.tup [.agg [.blob 32 (uL (linkC h e))], .b (mayE e)], []) := by
  rw [sem_succ tab (M + 1000) (d + 7) 62 m62 rfl]
  have h34 := V34 (M + 900) (d + 3) e ho
  rw [show M + 900 + 100 = M + 1000 by omega, show d + 3 + 4 = d + 7 by omega] at h34
  have h66 := V66 M (d + 4) h (encB e) hl (by rw [encB_len]; omega)
  have h35 := L26' M d ([1] ++ h ++ encB e) (by simp [hl, encB_len])
  rw [← linkH] at h35
  rw [encB_len] at h66
  have bl := byL_len ([1] ++ h ++ encB e)
  simp only [List.length_append, List.length_singleton, hl, encB_len] at bl
  have be := byL_len (encB e)
  rw [encB_len] at be
  have tk : List.take 63 (byL ([1] ++ h ++ encB e)) = byL ([1] ++ h ++ encB e) := List.take_of_length_le (by omega)
  have te : List.take 30 (byL (encB e)) = byL (encB e) := List.take_of_length_le (by omega)
  have ul := uL_len h
  rw [hl] at ul
  simp only [linkC]
  generalize byL ([1] ++ h ++ encB e) = w at *
  generalize byL (encB e) = b at *
  generalize linkH h e = q at *
  generalize uL h = u at *
  simp only [row] at h34 h66
  have hz : List.replicate 32 (PV.i .u8 0) = uL zero32L := by simp [uL, zero32L]
  cases hm : mayE e <;> rw [hm] at h34 <;> simp only [enC, cond_true, cond_false] at h34 ⊢
  · rw [← hz]
    generalize hz' : List.replicate 32 (PV.i .u8 0) = z at *
    simp -implicitDefEqProofs (maxSteps := 1000000) (disch := first | omega | rfl) [m62, hz', h34, KS, getS, getO, gS, zipN, dropW, takeW, wds, sea, seaL, refs, refsL, noExt, noExts, ren, renL, boxO, putW, newOs, renO, noExtO, -getElem?_pos]
  · generalize uL q = r at *
    generalize hz' : List.replicate 32 (PV.i .u8 0) = z at *
    simp -implicitDefEqProofs (maxSteps := 1000000) (disch := first | omega | rfl) [m62, hz', h34, h66, h35, bl, be, tk, te, KS, getS, getO, gS, zipN, dropW, takeW, wds, sea, seaL, refs, refsL, noExt, noExts, ren, renL, boxO, putW, newOs, renO, noExtO, -getElem?_pos]
end
section
theorem k_fin3 (ob : OB) (w w' w'' : Nat) (ws : List Nat) (u u' u'' : PV) : fin ob 0 (w :: w' :: w'' :: ws) [u, u', u''] = bnd (resO 0 ob (refs u ++ (refs u' ++ refs u'')) 0 w u) fun a => bnd (resO 0 ob (refs u ++ (refs u' ++ refs u'')) a.2.length w' u') fun b => bnd (resO 0 ob (refs u ++ (refs u' ++ refs u'')) (a.2.length + b.2.length) w'' u'') fun c => some (.tup [a.1, b.1, c.1], a.2 ++ (b.2 ++ c.2)) := by
  simp only [fin, refsL, List.append_nil, refsOuts, resOs, outOs, List.headD_cons, List.tail_cons, Nat.zero_add]
  cases resO 0 ob (refs u ++ (refs u' ++ refs u'')) 0 w u with
  | none => rfl
  | some r =>
    simp only [k_bnd]
    cases resO 0 ob (refs u ++ (refs u' ++ refs u'')) r.2.length w' u' with
    | none => rfl
    | some q =>
      simp only [k_bnd]
      cases resO 0 ob (refs u ++ (refs u' ++ refs u'')) (r.2.length + q.2.length) w'' u'' with
      | none => rfl
      | some q => simp [one, k_bnd]
set_option maxHeartbeats 4000000 in
theorem L38w (N d : Nat) (xs ys : List Int) (hx : xs ≠ []) (hy : ys ≠ []) (h : xs.length + ys.length ≤ 4294967296) : sem tab (N + 4) (d + 2) 63 [.l false [[.l false []], [.l false (byL xs)], [.l false (byL ys)]]] [] = some (.sl 0 0 0 (xs.length + ys.length), [row (byL (xs ++ ys)) 1 true]) := by
  rw [sem_succ tab (N + 4) (d + 1) 63 m63 rfl]
  have lx := byL_len xs
  have ly := byL_len ys
  have fx := flat_by xs
  have fy := flat_by ys
  have wx := allW_by xs
  have wy := allW_by ys
  have hap : byL (xs ++ ys) = byL xs ++ byL ys := by simp [byL]
  have hxl : 0 < xs.length := List.length_pos_iff.2 hx
  have hyl : 0 < ys.length := List.length_pos_iff.2 hy
  rw [hap]
  generalize byL xs = a at *
  generalize byL ys = b at *
  rw [← lx] at hxl
  rw [← ly] at hyl
  rw [← lx, ← ly] at h ⊢
  have ha : ¬ a = [] := by rintro rfl; simp at hxl
  have hb : ¬ b = [] := by rintro rfl; simp at hyl
  have n1 : ¬ ((a.length : Int) < 0) := by omega
  have n3 : ¬ ((b.length : Int) < 0) := by omega
  have n2 : ¬ ((a.length : Int) + b.length < 0) := by omega
  have h1 : a.length ≤ 4294967296 := by omega
  have h2 : b.length ≤ 4294967296 := by omega
  have h3 : ¬ (a.length + b.length ≤ a.length) := by omega
  have t1 : List.take a.length a = a := List.take_length
  have t2 : List.take (a.length + b.length) (a ++ b) = a ++ b := List.take_of_length_le (by simp)
  clear lx ly hap hx hy
  simp -implicitDefEqProofs (maxSteps := 1000000) (disch := first | omega | rfl) [m63, m63b0, m63b1, L44', allW, flatEls, n1, n2, h, h1, h3, fx, wx, fy, wy, ha, t1, t2, KS, getS, getO, gS, zipN, wds, refs, noExt, ren, keepO, keepS, keysO, refsS, refsOB, cntN, headC, setS, row, newOs, renO, noExtO, two32, w64, -getElem?_pos]
theorem L38v (M d : Nat) (ps xs ys : List Int) (hx : xs ≠ []) (hy : ys ≠ []) (h : ps.length + xs.length + ys.length ≤ 4294967295) : sem tab (M + 1000) (d + 2) 63 [.l false [[.l false (byL ps)], [.l false (byL xs)], [.l false (byL ys)]]] [] = some (.sl 0 0 0 (ps.length + xs.length + ys.length), [row (byL (ps ++ xs ++ ys)) 1 true]) := by
  by_cases hp : ps = []
  · subst hp
    have := L38w (M + 996) d xs ys hx hy (by simp at h; omega)
    rw [show ([] : List Int).length + xs.length + ys.length = xs.length + ys.length by simp]
    exact this
  · exact L38t (M + 996) d ps xs ys hp hx (by omega)
end
section
def enL (l : List En) : List (List PV) := l.map enC
theorem enL_len (l : List En) : (enL l).length = l.length := by simp [enL]
theorem enL_get (l : List En) (i : Nat) (h : i < l.length) : (enL l)[i]? = some (enC l[i]) := by simp [enL, h]
theorem allW_en (l : List En) : allW 9 (enL l) = true := by
  induction l with
  | nil => rfl
  | cons x r ih => simp only [enL, List.map_cons, enC, allW, wds, wd]; exact ih
theorem flat_en (l : List En) : flatEls (enL l) = true := by
  induction l with
  | nil => rfl
  | cons x r ih => simp only [enL, List.map_cons, enC, flatEls, flats, flat, Bool.true_and]; exact ih
noncomputable def hdL : List Int → List En → List Int
  | h, [] => h
  | h, e :: r => hdL (linkH h e) r
noncomputable def recL : List Int → List En → List Int
  | _, [] => []
  | h, e :: r => encB e ++ linkH h e ++ recL (linkH h e) r
theorem hdL_len : ∀ (l : List En) (h : List Int), h.length = 32 → (hdL h l).length = 32
  | [], h, hh => hh
  | e :: r, h, _ => hdL_len r _ (linkH_len h e)
theorem recL_len : ∀ (l : List En) (h : List Int), (recL h l).length = 62 * l.length
  | [], _ => rfl
  | e :: r, h => by simp only [recL, List.length_append, encB_len, linkH_len, recL_len r, List.length_cons]; omega
noncomputable def h0 : List Int := sumI' [0]
theorem h0_len : h0.length = 32 := sumI'_len _
def sl32p (xs : List (List PV)) (m i n : Nat) : SL := [(3, .p 88 0 0 0 none), (5, .sl 111 0 0 m), (6, .p 112 0 0 0 none), (18, .l false xs), (19, .i .i64 n), (20, .i .i64 i)]
def ob32p (z : List PV) (out : List Int) (h : List PV) : OB := [(111, row (byL out) 1 true), (88, box [.blob 32 z] 32), (112, box [.blob 32 h] 32)]
set_option maxHeartbeats 16000000 in
theorem stepv32 (M d : Nat) (g : SL → OB → Option R) (xs : List (List PV)) (z : List PV) (out h : List Int) (i n : Nat) (e : En) (hx : xs[i]? = some (enC e)) (hi : i < n) (hn : n < 1000) (ho : okE e) (hl : h.length = 32) (hz : z.length = 32) (hou : out.length ≤ 50000) :
    m52b0 (sem tab (M + 1000) (d + 8)) (M + 1000) [] g (sl32p xs out.length i n) (ob32p z out (uL h)) = cond (mayE e) (g (sl32p xs (out ++ encB e ++ linkH h e).length (i + 1) n) (ob32p z (out ++ encB e ++ linkH h e) (uL (linkH h e)))) (some (.tup [.sl 0 0 0 0, .agg [.blob 32 (uL zero32L)], .b false], [row [] 1 true])) := by
  have h36 := V36 M d h e hl ho
  have h34 := V34 (M + 900) (d + 4) e ho
  rw [show M + 900 + 100 = M + 1000 by omega, show d + 4 + 4 = d + 8 by omega] at h34
  have hne : encB e ≠ [] := by intro e'; have := encB_len e; rw [e'] at this; simp at this
  have hnl : linkH h e ≠ [] := by intro e'; have := linkH_len h e; rw [e'] at this; simp at this
  have h59 := L38v M (d + 6) out (encB e) (linkH h e) hne hnl (by rw [encB_len, linkH_len]; omega)
  rw [encB_len, linkH_len] at h59
  have w2 := w64n (i := i) (by omega)
  have ci : (i : Int) < n := by omega
  have lo := byL_len out
  have lk := uL_len (linkC h e)
  have be := byL_len (encB e)
  rw [encB_len] at be
  have te : List.take 30 (byL (encB e)) = byL (encB e) := List.take_of_length_le (by omega)
  have ul := uL_len h
  rw [hl] at ul
  have ql := uL_len (linkH h e)
  rw [linkH_len] at ql
  have tu := take_u (linkH h e) (linkH_len h e)
  have tu0 : (uL (linkH h e)).take 32 = uL (linkH h e) := by rw [← List.drop_zero (l := uL (linkH h e))]; exact tu
  have mu := map_u (linkH h e)
  have al := byL_len (out ++ encB e ++ linkH h e)
  have all : (out ++ encB e ++ linkH h e).length = out.length + 30 + 32 := by simp [encB_len, linkH_len, Nat.add_assoc]
  have tk : List.take (out.length + 30 + 32) (byL (out ++ encB e ++ linkH h e)) = byL (out ++ encB e ++ linkH h e) := List.take_of_length_le (by omega)
  have tk0 : List.take out.length (byL out) = byL out := List.take_of_length_le (by omega)
  rw [all] at al
  simp only [sl32p, ob32p, all]
  simp only [linkC] at h36 lk
  generalize byL (out ++ encB e ++ linkH h e) = w at *
  generalize byL (encB e) = b at *
  generalize byL (linkH h e) = bq at *
  generalize byL out = o at *
  generalize uL h = u at *
  have hz0 : List.replicate 32 (PV.i .u8 0) = uL zero32L := by simp [uL, zero32L]
  obtain ⟨e1, e2, e3, e4, e5, e6, e7, e8, e9⟩ := e
  simp only [enC] at h36 h34 hx
  cases hm : mayE ⟨e1, e2, e3, e4, e5, e6, e7, e8, e9⟩ <;> rw [hm] at h34 h36 lk <;> simp only [cond_true, cond_false] at h34 h36 lk ⊢
  · rw [← hz0] at h36 lk ⊢
    generalize hz' : List.replicate 32 (PV.i .u8 0) = zz at *
    simp -implicitDefEqProofs (maxSteps := 1000000) (disch := first | omega | rfl) [m52b0, hx, ci, w2, hz', h36, k_fin3, box, KV, KS, getS, getO, gS, dropW, takeW, wds, stvs, sea, seaL, refs, refsL, isPureEls, isPures, isPure, noExt, noExts, noExtEls, cellsL, ren, renL, cntN, boxO, row, putW, -getElem?_pos]
  · generalize uL (linkH h _) = q at *
    generalize hz' : List.replicate 32 (PV.i .u8 0) = zz at *
    simp only [row] at h34 h59
    simp -implicitDefEqProofs (maxSteps := 1000000) (disch := first | omega | rfl) [m52b0, hx, ci, w2, hz', h34, h36, h59, be, te, ql, tu0, mu, al, tk0, lo, box, KV, KS, getS, getO, gS, dropW, takeW, wds, stvs, refs, refsL, refsEls, refsO, isPureEls, isPures, isPure, noExt, noExts, noExtEls, cellsL, ren, renL, keepO, keepS, keysO, refsS, refsOB, cntN, headC, setS, boxO, row, putW, newOs, renO, noExtO, -getElem?_pos]
end
section
set_option maxHeartbeats 8000000 in
theorem endv32 (M d : Nat) (g : SL → OB → Option R) (xs : List (List PV)) (z : List PV) (out h : List Int) (n : Nat) (hl : h.length = 32) (hz : z.length = 32) :
    m52b0 (sem tab (M + 1000) (d + 8)) (M + 1000) [] g (sl32p xs out.length n n) (ob32p z out (uL h)) = some (.tup [.sl 0 0 0 out.length, .agg [.blob 32 (uL h)], .b true], [row (byL out) 1 true]) := by
  have ul := uL_len h
  rw [hl] at ul
  have lo := byL_len out
  have tk0 : List.take out.length (byL out) = byL out := List.take_of_length_le (by omega)
  simp only [sl32p, ob32p]
  generalize byL out = o at *
  generalize uL h = u at *
  simp -implicitDefEqProofs (maxSteps := 1000000) (disch := first | omega | rfl) [m52b0, lo, tk0, k_fin3, box, KV, KS, getS, getO, gS, dropW, takeW, wds, stvs, sea, seaL, refs, refsL, isPureEls, isPures, isPure, noExt, noExts, noExtEls, cellsL, cntN, boxO, row, putW, -getElem?_pos]
def noPut : Option R := some (.tup [.sl 0 0 0 0, .agg [.blob 32 (uL zero32L)], .b false], [row [] 1 true])
def yesPut (out h : List Int) : Option R := some (.tup [.sl 0 0 0 out.length, .agg [.blob 32 (uL h)], .b true], [row (byL out) 1 true])
theorem loopv32 (M d : Nat) (l : List En) (z : List PV) (hl : l.length ≤ 264) (ho : ∀ e ∈ l, okE e) (hz : z.length = 32) : ∀ (k i e : Nat) (out h : List Int), i + k = l.length → h.length = 32 → out.length = 62 * i →
    loopC (m52b0 (sem tab (M + 1000) (d + 8)) (M + 1000) []) (e + 1 + k) (sl32p (enL l) out.length i l.length) (ob32p z out (uL h)) = cond ((l.drop i).all mayE) (yesPut (out ++ recL h (l.drop i)) (hdL h (l.drop i))) noPut := by
  intro k
  induction k with
  | zero =>
    intro i e out h hi hh hou
    have : i = l.length := by omega
    subst this
    rw [Nat.add_zero, k_loop, endv32 M d _ (enL l) z out h l.length hh hz, List.drop_length]
    simp [recL, hdL, yesPut]
  | succ k ih =>
    intro i e out h hi hh hou
    have hi' : i < l.length := by omega
    rw [← Nat.add_assoc, k_loop, stepv32 M d _ (enL l) z out h i l.length l[i] (enL_get l i hi') hi' (by omega) (ho _ (List.getElem_mem hi')) hh hz (by omega), List.drop_eq_getElem_cons hi', List.all_cons]
    cases hm : mayE l[i]
    · rfl
    · rw [cond_true, ih (i + 1) e _ _ (by omega) (linkH_len _ _) (by simp [encB_len, linkH_len]; omega)]
      simp [recL, hdL, List.append_assoc]
set_option maxHeartbeats 8000000 in
theorem V32 (M d : Nat) (l : List En) (hl : l.length ≤ 264) (ho : ∀ e ∈ l, okE e) : sem tab (M + 1000) (d + 9) 52 [.l false (enL l)] [] = cond (l.all mayE) (yesPut (recL h0 l) (hdL h0 l)) noPut := by
  rw [sem_succ tab (M + 1000) (d + 8) 52 m52 rfl]
  have h45 := V45 M d
  rw [show sumI' [0] = h0 from rfl] at h45
  have hz : (List.replicate 32 (PV.i IntKind.u8 0)).length = 32 := rfl
  have h := loopv32 M d l (List.replicate 32 (.i .u8 0)) hl ho hz l.length 0 (M + 999 - l.length) [] h0 (by omega) h0_len rfl
  rw [show M + 999 - l.length + 1 + l.length = M + 1000 by omega, List.drop_zero, List.nil_append] at h
  have hn := enL_len l
  have ul := uL_len h0
  rw [h0_len] at ul
  have ng : ¬ (264 : Int) < l.length := by omega
  have ng' : ¬ (l.length : Int) > 264 := by omega
  rw [← h]
  rw [← hn] at ng ng' ⊢
  simp only [sl32p, ob32p, List.length_nil]
  simp only [show byL [] = [] from rfl]
  generalize uL h0 = u at *
  generalize hz' : List.replicate 32 (PV.i .u8 0) = zz at *
  clear h
  generalize enL l = a at *
  simp -implicitDefEqProofs (maxSteps := 1000000) (disch := first | omega | rfl) [m52, h45, hz', ng, box, KS, getS, getO, gS, zipN, dropW, takeW, wds, refs, refsL, refsEls, refsO, noExt, noExts, ren, renL, keepO, keepS, keysO, refsS, refsOB, cntN, headC, setS, boxO, row, putW, -getElem?_pos]
end
section
def eqE (e f : En) : Bool := e.kind == f.kind && (e.tick == f.tick && (e.epoch == f.epoch && (e.user == f.user && (e.sess == f.sess && (e.count == f.count && (e.cmd == f.cmd && (e.arg == f.arg && (e.code == f.code && true))))))))
theorem eqE_iff (e f : En) : eqE e f = true ↔ e = f := by
  obtain ⟨e1, e2, e3, e4, e5, e6, e7, e8, e9⟩ := e
  obtain ⟨f1, f2, f3, f4, f5, f6, f7, f8, f9⟩ := f
  simp [eqE]
theorem k_est (neg : Bool) (e f : En) : eSt neg [.i, .i, .i, .i, .i, .i, .i, .i, .i] (.agg (enC e)) (.agg (enC f)) = some (.b (eqE e f ^^ neg)) := rfl
def sameL : List En → List En → Bool
  | [], [] => true
  | x :: r, y :: s => eqE x y && sameL r s
  | _, _ => false
theorem sameL_iff : ∀ l m : List En, sameL l m = true ↔ l = m
  | [], [] => by simp [sameL]
  | [], _ :: _ => by simp [sameL]
  | _ :: _, [] => by simp [sameL]
  | x :: r, y :: s => by simp [sameL, eqE_iff, sameL_iff r s]
theorem sameL_len : ∀ l m : List En, l.length ≠ m.length → sameL l m = false := by
  intro l m h
  cases hs : sameL l m with
  | false => rfl
  | true => exact absurd ((sameL_iff l m).1 hs ▸ rfl) h
def sl67 (a b : List (List PV)) (n i : Nat) : SL := [(0, .l false a), (1, .l false b), (12, .i .i64 n), (13, .i .i64 i)]
set_option maxHeartbeats 4000000 in
theorem stepv67 (N d : Nat) (g : SL → OB → Option R) (a b : List (List PV)) (n i : Nat) (e f : En) (hx : a[i]? = some (enC e)) (hy : b[i]? = some (enC f)) (hi : i < n) (hn : n < 1000000) :
    m55b0 (sem tab N d) N [] g (sl67 a b n i) [] = cond (eqE e f) (g (sl67 a b n (i + 1)) []) (some (.b false, [])) := by
  have w2 := w64n (i := i) (by omega)
  have ci : (i : Int) < n := by omega
  have he := k_est true e f
  generalize eqE e f = q at *
  obtain ⟨e1, e2, e3, e4, e5, e6, e7, e8, e9⟩ := e
  obtain ⟨f1, f2, f3, f4, f5, f6, f7, f8, f9⟩ := f
  simp only [enC] at he hx hy
  cases q <;> simp -implicitDefEqProofs (maxSteps := 1000000) (disch := first | omega | rfl) [m55b0, sl67, hx, hy, w2, ci, he, KS, getS, gS, takeW, wds, refs, keepO, keepS, keysO, refsS, refsOB, headC, -getElem?_pos]
set_option maxHeartbeats 4000000 in
theorem endv67 (N d : Nat) (g : SL → OB → Option R) (a b : List (List PV)) (n : Nat) : m55b0 (sem tab N d) N [] g (sl67 a b n n) [] = some (.b true, []) := by
  simp -implicitDefEqProofs (maxSteps := 1000000) (disch := first | omega | rfl) [m55b0, sl67, KS, getS, gS, refs, keepO, keepS, keysO, refsS, refsOB, headC, -getElem?_pos]
theorem loopv67 (N d : Nat) (l m : List En) (he : l.length = m.length) (hl : l.length < 1000000) : ∀ (k i e : Nat), i + k = l.length →
    loopC (m55b0 (sem tab N d) N []) (e + 1 + k) (sl67 (enL l) (enL m) l.length i) [] = some (.b (sameL (l.drop i) (m.drop i)), []) := by
  intro k
  induction k with
  | zero =>
    intro i e h
    have : i = l.length := by omega
    subst this
    rw [Nat.add_zero, k_loop, endv67, List.drop_length, he, List.drop_length]; rfl
  | succ k ih =>
    intro i e h
    have hi : i < l.length := by omega
    have hi' : i < m.length := by omega
    rw [← Nat.add_assoc, k_loop, stepv67 N d _ (enL l) (enL m) l.length i _ _ (enL_get l i hi) (enL_get m i hi') hi hl, List.drop_eq_getElem_cons hi, List.drop_eq_getElem_cons hi', sameL]
    cases ho : eqE l[i] m[i]
    · rfl
    · rw [cond_true, ih (i + 1) e (by omega), Bool.true_and]
theorem V67 (N d : Nat) (l m : List En) (hl : l.length < 1000) : sem tab (N + 1000) (d + 1) 55 [.l false (enL l), .l false (enL m)] [] = some (.b (sameL l m), []) := by
  rw [sem_succ tab (N + 1000) d 55 m55 rfl]
  have hx := enL_len l
  have hy := enL_len m
  by_cases he : l.length = m.length
  · have h := loopv67 (N + 1000) d l m he (by omega) l.length 0 (N + 999 - l.length) (by omega)
    rw [show N + 999 - l.length + 1 + l.length = N + 1000 by omega, k_loop] at h
    simp only [sl67, List.drop_zero] at h
    rw [show ((0 : Nat) : Int) = 0 from rfl] at h
    generalize sameL l m = q at *
    rw [← hx] at h
    rw [← hx, ← hy] at he
    generalize enL l = a at *
    generalize enL m = b at *
    have e1 : (((a.length : Nat) : Int) != ((b.length : Nat) : Int)) = false := by simp [he]
    simp -implicitDefEqProofs (maxSteps := 1000000) (disch := first | omega | rfl) [m55, h, e1, KS, getS, gS, zipN, refs, keepO, keepS, keysO, refsS, refsOB, headC, -getElem?_pos]
  · rw [sameL_len l m he]
    rw [← hx, ← hy] at he
    generalize enL l = a at *
    generalize enL m = b at *
    have e1 : (((a.length : Nat) : Int) != ((b.length : Nat) : Int)) = true := by simp; omega
    simp -implicitDefEqProofs (maxSteps := 1000000) (disch := first | omega | rfl) [m55, e1, KS, getS, gS, zipN, refs, keepO, keepS, keysO, refsS, refsOB, headC, -getElem?_pos]
theorem V37 (N d : Nat) (l m : List En) (hl : l.length < 1000) : sem tab (N + 1000) (d + 2) 26 [.l false (enL l), .l false (enL m)] [] = some (.b (sameL l m), []) := by
  rw [sem_succ tab (N + 1000) (d + 1) 26 m26 rfl]
  have h := V67 N d l m hl
  generalize enL l = a at *
  generalize enL m = b at *
  simp -implicitDefEqProofs (maxSteps := 1000000) (disch := first | omega | rfl) [m26, h, KS, getS, gS, zipN, refs, refsL, noExt, ren, -getElem?_pos]
theorem V72 (N d : Nat) (xs ys : List Int) : sem tab N (d + 1) 53 [.l false (byL xs), .l false (byL ys)] [] = some (.b (decide (chars xs = chars ys)), []) := by
  rw [sem_succ tab N d 53 m53 rfl]
  have hx := unB_by xs
  have hy := unB_by ys
  generalize byL xs = a at *
  generalize byL ys = b at *
  generalize chars xs = p at *
  generalize chars ys = q at *
  simp -implicitDefEqProofs (maxSteps := 1000000) (disch := first | omega | rfl) [m53, hx, hy, KS, getS, gS, zipN, refs, -getElem?_pos]
end
section
section
variable (o v i off n m : Nat) (ob : OB) (g : Bool) (xs : List (List PV)) (ps : List PV) (X Y : Obj') (sl : SL)
theorem k_yK (dst : Option Nat) (f : PV) (args : List PV) (K : SL → OB → Option R) : yK ob sl dst f args K = yGet ob sl dst args K f (getS sl tslot) (getO ob 0) (getO ob 1) := rfl
theorem k_yGet (dst : Option Nat) (args : List PV) (K : SL → OB → Option R) : yGet ob sl dst args K (.y 0 0 4) (.y 1 n 0) (some X) (some Y) = if X.ver = 0 ∧ Y.ver = n then yGo ob sl dst n Y K (reifies ob args) else none := rfl
theorem k_yGo (t : Nat) (as : List PV) (K : SL → OB → Option R) : yGo ob sl (some t) n X K (some (as, [])) = if as.all okT = true ∧ warm ob = true then consR as (K ((t, .y 1 (n + 1) 2) :: (tslot, .y 1 (n + 1) 1) :: sl) ((1, { X with ver := n + 1 }) :: ob)) else none := rfl
theorem k_all0 : List.all ([] : List PV) okT = true := rfl
theorem k_all1 (w : PV) (r : List PV) : List.all (w :: r) okT = (okT w && List.all r okT) := rfl
theorem k_okT : okT (.agg ps) = ps.all okC := rfl
theorem k_allC0 : List.all ([] : List PV) okC = true := rfl
theorem k_allC1 (w : PV) (r : List PV) : List.all (w :: r) okC = (okC w && List.all r okC) := rfl
theorem k_okC_i (k : IntKind) (a : Int) : okC (.i k a) = true := rfl
theorem k_okC_b (x : Bool) : okC (.b x) = true := rfl
theorem k_okC_blob : okC (.blob n ps) = true := rfl
theorem k_okC_l : okC (.l false xs) = true := rfl
theorem k_yOut (r : R) : yOut (some r) = some (r.1, []) := rfl
theorem k_not3 : uO .not (.y o n 2) = some (.y o n 3) := rfl
theorem k_brYt (A B : SL → OB → Option R) : brY (.b true) A B sl ob = A sl ob := rfl
theorem k_brYf (A B : SL → OB → Option R) : brY (.b false) A B sl ob = B sl ob := rfl
theorem k_brY2 (A B : SL → OB → Option R) : brY (.y 1 n 2) A B sl ob = brGo n A B sl ob (getS sl tslot) (getO ob 1) := rfl
theorem k_brY3 (A B : SL → OB → Option R) : brY (.y 1 n 3) A B sl ob = brGo n B A sl ob (getS sl tslot) (getO ob 1) := rfl
theorem k_brGo (A B : SL → OB → Option R) : brGo n A B sl ob (.y 1 m 1) (some X) = if m = n ∧ X.ver = n then goStop (A ((tslot, .y 1 n 0) :: sl) ob) (B sl ob) else none := rfl
theorem k_goStop (G : Option R) (r : R) : goStop G (some r) = G := rfl
theorem k_dis (as' bs : List PV) : dis as' bs = if ((refsL as').any ((refsL bs).contains ·)) = true then none else some () := rfl
theorem k_warm : warm ob = (keysO ob).all fun o => match getO ob o with | some x => !x.fro | none => true := rfl
end
def KY := And.intro @k_yK (And.intro @k_yGet (And.intro @k_yGo (And.intro @k_all0 (And.intro @k_all1 (And.intro @k_okT (And.intro @k_allC0 (And.intro @k_allC1 (And.intro @k_okC_i (And.intro @k_okC_b (And.intro @k_okC_blob (And.intro @k_okC_l (And.intro @k_yOut (And.intro @k_not3 (And.intro @k_brYt (And.intro @k_brYf (And.intro @k_brY2 (And.intro @k_brY3 (And.intro @k_brGo (And.intro @k_dis @k_goStop)))))))))))))))))))
theorem V60 (N d : Nat) (xs : List (List PV)) : sem tab N (d + 1) 56 [.l false xs] [] = some (.fn 75 [] [.p 0 0 0 0 none], [box [.l false xs] 1]) := by
  rw [sem_succ tab N d 56 m56 rfl]
  simp -implicitDefEqProofs (maxSteps := 1000000) (disch := first | omega | rfl) [m56, box, KS, getS, getO, gS, zipN, wds, boxO, -getElem?_pos]
  simp [finG, reach, refsL, refs, refsEls, refsO, getOs, idx, renL, ren, renEls, renO, stvs, stv, one, getO]
end
section
abbrev St' := En × List Int × Int
def stC (s : St') : List PV := enC s.1 ++ [.blob 32 (uL s.2.1), .i .i64 s.2.2]
def frE (bs : List Int) : En := getE (bs.take 30)
def tgE (bs : List Int) : List Int := (bs.take 62).drop 30
noncomputable def stepsL : Nat → List Int → List Int → List St'
  | 0, _, _ => []
  | k + 1, h, bs => if bs.length < 62 then [] else cond (mayE (frE bs)) (cond (decide (chars (linkH h (frE bs)) = chars (tgE bs))) ((frE bs, linkH h (frE bs), 0) :: stepsL k (linkH h (frE bs)) (bs.drop 62)) [(frE bs, linkH h (frE bs), 7)]) [(zeE, zero32L, 3)]
def stL (l : List St') : List (List PV) := l.map fun s => [.agg (stC s)]
def sl81 (n i : Nat) : SL := [(0, .y 0 0 4), (1, .p 2 0 0 0 none), (3, .p 88 0 0 0 none), (4, .i .i64 i), (1000000, .y 1 n 0)]
def ob81 (n : Nat) (h : List PV) (xs : List (List PV)) : OB := [(88, box [.blob 32 h] 32), (0, lpO), (1, { lpO with ver := n }), (2, box [.l false xs] 1)]
def noMore : Option R := some (.tup [.un, .l false []], [])
set_option maxHeartbeats 16000000 in
theorem stepv81 (M d : Nat) (g : SL → OB → Option R) (os : List Obj') (h bs : List Int) (n i : Nat) (hl : h.length = 32) (hi : i < 264) (hb : 62 ≤ bs.length) (hbl : bs.length ≤ 100000) (hr : ∀ x ∈ bs, 0 ≤ x ∧ x ≤ 255) :
    m75b0 (sem tab (M + 1000) (d + 8)) (M + 1000) os g (sl81 n i) (ob81 n (uL h) (byL bs)) = cond (mayE (frE bs)) (cond (decide (chars (linkH h (frE bs)) = chars (tgE bs))) (consR [.agg (stC (frE bs, linkH h (frE bs), 0))] (g (sl81 (n + 1) (i + 1)) (ob81 (n + 1) (uL (linkH h (frE bs))) (byL (bs.drop 62))))) (consR [.agg (stC (frE bs, linkH h (frE bs), 7))] noMore)) (consR [.agg (stC (zeE, zero32L, 3))] noMore) := by
  have h82 := V82 (M + 900) (d + 4) (bs.take 30) (by rw [List.length_take]; omega) (fun x hx => hr x (List.mem_of_mem_take hx))
  rw [show M + 900 + 100 = M + 1000 by omega, show d + 4 + 4 = d + 8 by omega] at h82
  have ho : okE (frE bs) := by
    have v : ∀ k, k ≤ 18 → 0 ≤ vAt (bs.take 30) k 8 ∧ vAt (bs.take 30) k 8 < 18446744073709551616 := fun k hk => by
      have hv := val_range (((bs.take 30).drop k).take 8) (fun x hx => hr x (List.mem_of_mem_take (List.mem_of_mem_drop (List.mem_of_mem_take hx))))
      have hl : (((bs.take 30).drop k).take 8).length = 8 := by simp only [List.length_take, List.length_drop]; omega
      rw [hl] at hv
      exact hv
    exact ⟨(v 10 (by omega)).1, (v 10 (by omega)).2, (v 18 (by omega)).1, (v 18 (by omega)).2⟩
  have h36 := V36 M d h (frE bs) hl ho
  have h72 := V72 (M + 1000) (d + 7) (linkH h (frE bs)) (tgE bs)
  have w2 := w64n (i := i) (by omega)
  have ci : (i : Int) < 264 := by omega
  have lb := byL_len bs
  have cb : (bs.length : Int) ≥ 62 := by omega
  have cb' : (62 : Int) ≤ bs.length := by omega
  have wb := allW_by bs
  have t1 : (byL bs).take 30 = byL (bs.take 30) := byL_take bs 30
  have t2 : ((byL bs).take 62).drop 30 = byL (tgE bs) := by rw [byL_take, byL_drop]; rfl
  have t3 : (byL bs).drop 62 = byL (bs.drop 62) := byL_drop bs 62
  have tt : List.take bs.length (byL bs) = byL bs := List.take_of_length_le (by omega)
  have c30 : (30 : Int) ≤ (byL bs).length := by omega
  have c62 : (62 : Int) ≤ (byL bs).length := by omega
  have ul := uL_len h
  rw [hl] at ul
  have ql := uL_len (linkH h (frE bs))
  rw [linkH_len] at ql
  have tu := take_u (linkH h (frE bs)) (linkH_len h (frE bs))
  have tu0 : (uL (linkH h (frE bs))).take 32 = uL (linkH h (frE bs)) := by rw [← List.drop_zero (l := uL (linkH h (frE bs)))]; exact tu
  have mu := map_u (linkH h (frE bs))
  change sem tab (M + 1000) (d + 8) _ _ _ = some (.tup [.agg (enC (cond (mayE (frE bs)) (frE bs) zeE)), .b (mayE (frE bs))], []) at h82
  simp only [sl81, ob81, linkC, stC] at h36 ⊢
  rw [← lb] at cb cb' tt
  rw [← t1] at h82
  rw [← t2, ← mu] at h72
  rw [← t3]
  generalize chars (linkH h (frE bs)) = p at *
  generalize chars (tgE bs) = q at *
  clear t1 t2 t3 mu
  generalize linkH h (frE bs) = k at *
  generalize frE bs = e at *
  generalize byL bs = b at *
  clear lb hb hbl hr ho
  generalize uL h = u at *
  have hz0 : uL zero32L = List.replicate 32 (PV.i .u8 0) := by simp [uL, zero32L]
  have hzl : (List.replicate 32 (PV.i .u8 0)).length = 32 := rfl
  obtain ⟨e1, e2, e3, e4, e5, e6, e7, e8, e9⟩ := e
  cases hm : mayE ⟨e1, e2, e3, e4, e5, e6, e7, e8, e9⟩ <;> rw [hm] at h82 h36 <;> simp only [cond_true, cond_false, enC, zeE, List.cons_append, List.nil_append] at h82 h36 ⊢
  · rw [hz0]
    clear hz0 h36
    generalize hz' : List.replicate 32 (PV.i .u8 0) = zz at *
    simp -implicitDefEqProofs (maxSteps := 1000000) (disch := first | omega | rfl) [m75b0, noMore, lpO, tslot, h82, ci, cb, wb, c30, hz', box, k_warm, KY, KS, getS, getO, gS, dropW, takeW, wds, refs, refsL, noExt, noExts, ren, renL, keysO, boxO, putW, -getElem?_pos]
  · clear hz0
    generalize uL k = q' at *
    generalize hz' : List.replicate 32 (PV.i .u8 0) = zz at *
    generalize decide (p = q) = same at *
    cases same
    · simp -implicitDefEqProofs (maxSteps := 1000000) (disch := first | omega | rfl) [m75b0, noMore, lpO, tslot, h82, h36, h72, ci, cb, wb, c30, hz', ql, tu0, box, k_warm, KY, KV, KS, getS, getO, gS, dropW, takeW, wds, refs, refsL, noExt, noExts, ren, renL, keysO, boxO, putW, -getElem?_pos]
    · simp -implicitDefEqProofs (maxSteps := 1000000) (disch := first | omega | rfl) [m75b0, noMore, lpO, tslot, w2, h82, h36, h72, ci, cb, wb, tt, c30, hz', ql, tu0, box, k_warm, KY, KV, KS, getS, getO, gS, dropW, takeW, wds, refs, refsL, refsEls, refsO, noExt, noExts, ren, renL, keepO, keepS, keysO, refsS, refsOB, cntN, headC, boxO, putW, -getElem?_pos]
end
section
set_option maxHeartbeats 16000000 in
theorem endv81 (M d : Nat) (g : SL → OB → Option R) (os : List Obj') (h bs : List Int) (n i : Nat) (hl : h.length = 32) (hi : bs.length < 62 ∨ 264 ≤ i) :
    m75b0 (sem tab (M + 1000) (d + 8)) (M + 1000) os g (sl81 n i) (ob81 n (uL h) (byL bs)) = noMore := by
  have lb := byL_len bs
  simp only [sl81, ob81]
  rw [← lb] at hi
  generalize byL bs = b at *
  generalize uL h = u at *
  by_cases c : b.length < 62
  · have cb : ¬ (b.length : Int) ≥ 62 := by omega
    have cb' : ¬ (62 : Int) ≤ b.length := by omega
    simp -implicitDefEqProofs (maxSteps := 1000000) (disch := first | omega | rfl) [m75b0, noMore, lpO, tslot, cb, box, KY, KS, getS, getO, gS, dropW, wds, refsL, boxO, -getElem?_pos]
  · have cb : (b.length : Int) ≥ 62 := by omega
    have cb' : (62 : Int) ≤ b.length := by omega
    have ci : ¬ (i : Int) < 264 := by omega
    simp -implicitDefEqProofs (maxSteps := 1000000) (disch := first | omega | rfl) [m75b0, noMore, lpO, tslot, cb, ci, box, KY, KS, getS, getO, gS, dropW, wds, refsL, boxO, -getElem?_pos]
theorem consR_st (s : St') (l : List St') : consR [.agg (stC s)] (some (.tup [.un, .l false (stL l)], [])) = some (.tup [.un, .l false (stL (s :: l))], []) := rfl
theorem loopv81 (M d : Nat) (os : List Obj') : ∀ (k i n e : Nat) (h bs : List Int), i + k = 264 → h.length = 32 → bs.length ≤ 100000 → (∀ x ∈ bs, 0 ≤ x ∧ x ≤ 255) →
    loopC (m75b0 (sem tab (M + 1000) (d + 8)) (M + 1000) os) (e + 1 + k) (sl81 n i) (ob81 n (uL h) (byL bs)) = some (.tup [.un, .l false (stL (stepsL k h bs))], []) := by
  intro k
  induction k with
  | zero =>
    intro i n e h bs hi hh hb hr
    rw [Nat.add_zero, k_loop, endv81 M d _ os h bs n i hh (.inr (by omega))]
    rfl
  | succ k ih =>
    intro i n e h bs hi hh hb hr
    rw [← Nat.add_assoc, k_loop, stepsL]
    by_cases c : bs.length < 62
    · rw [endv81 M d _ os h bs n i hh (.inl c), if_pos c]; rfl
    · rw [stepv81 M d _ os h bs n i hh (by omega) (by omega) hb hr, if_neg c]
      cases mayE (frE bs)
      · rfl
      · cases decide (chars (linkH h (frE bs)) = chars (tgE bs))
        · rfl
        · simp only [cond_true]
          rw [ih (i + 1) (n + 1) e _ _ (by omega) (linkH_len _ _) (by rw [List.length_drop]; omega) (fun x hx => hr x (List.mem_of_mem_drop hx)), consR_st]
set_option maxHeartbeats 8000000 in
theorem V81 (M d : Nat) (bs : List Int) (hb : bs.length ≤ 100000) (hr : ∀ x ∈ bs, 0 ≤ x ∧ x ≤ 255) : sem tab (M + 1000) (d + 9) 75 [.y 0 0 4, .p 2 0 0 0 none] [lpO, lpO, box [.l false (byL bs)] 1] = some (.tup [.un, .l false (stL (stepsL 264 h0 bs))], []) := by
  rw [sem_succ tab (M + 1000) (d + 8) 75 m75 rfl]
  have h45 := V45 M d
  rw [show sumI' [0] = h0 from rfl] at h45
  have h := loopv81 M d [lpO, lpO, box [.l false (byL bs)] 1] 264 0 0 (M + 735) h0 bs (by omega) h0_len hb hr
  rw [show M + 735 + 1 + 264 = M + 1000 by omega] at h
  have ul := uL_len h0
  rw [h0_len] at ul
  have hz : (List.replicate 32 (PV.i IntKind.u8 0)).length = 32 := rfl
  generalize stL (stepsL 264 h0 bs) = a at *
  simp only [sl81, ob81, lpO] at h ⊢
  generalize uL h0 = u at *
  generalize hz' : List.replicate 32 (PV.i .u8 0) = zz at *
  generalize byL bs = b at *
  simp only [box] at h
  rw [show ((0 : Nat) : Int) = 0 from rfl, k_loop] at h
  simp -implicitDefEqProofs (maxSteps := 1000000) (disch := first | omega | rfl) [m75, h45, h, hz', box, KY, KS, getS, getO, gS, zipN, dropW, takeW, wds, refs, refsL, refsEls, refsO, noExt, noExts, ren, renL, keepO, keepS, keysO, refsS, refsOB, cntN, headC, boxO, putW, -getElem?_pos]
end
section
section
variable (B : (OB → Option R) → SL → SL → OB → Option R) (ps : List Nat) (hd : Hd) (Kn : SL → OB → Option R) (sl : SL) (ob : OB)
theorem k_rounds0 : rounds' B ps hd Kn [] sl ob = Kn sl ob := rfl
theorem k_rounds1 (x : List PV) (r : List (List PV)) : rounds' B ps hd Kn (x :: r) sl ob = if x.length = ps.length then B (fun ob => normK (rounds' B ps hd Kn r) hd sl ob) sl (zipS ps x sl) ob else none := rfl
theorem k_rgO (ids : List Nat) (xs : List (List PV)) : rgO B ps hd Kn sl ob (some (ids, xs)) = normK (rounds' B ps hd Kn xs) hd (delS ids sl) (delO ids ob) := rfl
end
theorem rgF_steps (Φ : Sem') (ob : OB) (o : Nat) (b a : List (List PV)) (h1 : getO ob rp = none) (h2 : getO ob rq = none) (h3 : getO ob o = some (box [.l false b] 1)) (h64 : 64 ≤ o) (hp : o ≠ rp) (hq : o ≠ rq)
    (h4 : (refsOB (delO [rp, rq, o] ob)).any ([rp, rq, o].contains ·) = false)
    (h : Φ 75 [.y 0 0 4, .p 2 0 0 0 none] [lpO, lpO, box [.l false b] 1] = some (.tup [.un, .l false a], [])) :
    rgF Φ ob (.fn 75 [] [.p o 0 0 0 none]) = some ([rp, rq, o], a) := by
  have e1 : (o == rp) = false := by simpa using hp
  have e2 : (o == rq) = false := by simpa using hq
  have hp' : ¬ rp = o := fun e => hp e.symm
  have hq' : ¬ rq = o := fun e => hq e.symm
  have hpq : ¬ rp = rq := by decide
  have hqp : ¬ rq = rp := by decide
  have r1 : reach ((rp, lpO) :: (rq, lpO) :: ob) 20 [rp, rq, o] [] = some [rp, rq, o] := by
    simp [reach, getO, lpO, refsO, hp, hq, hp', hq', hpq, hqp, h3, box, refsEls, refsL, refs]
  have r2 : getOs ((rp, lpO) :: (rq, lpO) :: ob) [rp, rq, o] = some [lpO, lpO, box [.l false b] 1] := by
    simp [getOs, getO, hp', hq', hpq, h3]
  simp only [rgF, h1, h2, rgNo, refsL, refs, List.append_nil]
  rw [r1]
  simp only [rgRun]
  rw [r2]
  simp only [rgOs, h4]
  have ren1 : renL (idx [rp, rq, o]) [.y rp 0 4, .p o 0 0 0 none] = [.y 0 0 4, .p 2 0 0 0 none] := by simp [renL, ren, idx, hp', hq']
  have ren2 : ([lpO, lpO, box [.l false b] 1].map (renO (idx [rp, rq, o]))) = [lpO, lpO, box [.l false b] 1] := by simp [renO, lpO, box, renEls, renL, ren]
  rw [ren1, ren2, h]
  have k64 : decide (64 ≤ rp) = true ∧ decide (64 ≤ rq) = true := by decide
  simp [rgIt, lpO, box, h64, rp, rq]
end
section
section
variable (sl : SL) (ob : OB) (b off o w n : Nat) (X : Obj') (a c : List PV) (v : PV) (r : List CC)
theorem k_normK (k : SL → OB → Option R) (h : Hd) : normK k h sl ob = bnd (headH h sl ob) fun x => k x.1 x.2 := rfl
theorem k_headH (nc : List NC) (ts os : List Nat) (cs : List CC) : headH ⟨nc, ts, os, cs⟩ sl ob = bnd (renCs cs (keepS sl ts) ob) fun y => head nc ts os y.1 y.2 := rfl
theorem k_renCs0 : renCs [] sl ob = some (sl, ob) := rfl
theorem k_renCs1 (x : CC) : renCs (x :: r) sl ob = bnd (renC x sl ob) fun y => renCs r y.1 y.2 := rfl
theorem k_renC : renC (.row b off o w) sl ob = renX sl ob b off o w (getO ob b) := rfl
theorem k_renX (el : List PV) (w' : Nat) (g : Bool) (cp : Option Nat) (vr : Nat) (f : Bool) : renX sl ob b off o w (some { els := [el], w := w', pu := false, g := g, cap := cp, ver := vr, fro := f }) = renA sl ob b o w { els := [el], w := w', pu := false, g := g, cap := cp, ver := vr, fro := f } (takeW el off) (dropW el off) := rfl
theorem k_renA : renA sl ob b o w X (some a) (some (v :: c)) = if sameC o v (getO ob o) = true then some (sl, ob)
    else if wd v = 1 ∧ 64 ≤ o ∧ b ≠ o ∧ (refsOB (delO [o] ob)).any ([o].contains ·) = false then renE (delS [o] sl) (delO [o] ob) b o X a c (asR (delO [o] ob) w v)
    else none := rfl
theorem k_renE (x : Obj') (s : List Nat) : renE sl ob b o X a c (some (x, n, s)) = if getO ob o = none ∧ 64 ≤ o ∧ s.contains b = false ∧ (refsL a ++ refsL c).any (s.contains ·) = false ∧ (refsOB (delO (b :: s) ob)).any (s.contains ·) = false then
      some (delS s sl, (o, x) :: (b, { X with els := [a ++ .sl o 0 0 n :: c] }) :: delO (b :: s) ob) else none := rfl
theorem k_sameC0 : sameC o v none = false := by cases v <;> rfl
theorem k_sameCe (z : Bool) (q : Option Obj') : sameC o (.e z) q = false := by cases q <;> rfl
theorem k_sameCs (o' vr lo : Nat) : sameC o (.sl o' vr lo n) (some X) = (o' == o && vr == 0 && lo == 0 && X.pu && !X.fro && X.ver == 0 && X.cap.isNone && n == X.els.length && decide (64 ≤ o)) := rfl
end
def KZ := And.intro @k_normK (And.intro @k_headH (And.intro @k_renCs0 (And.intro @k_renCs1 (And.intro @k_renC (And.intro @k_renX (And.intro @k_renA (And.intro @k_renE (And.intro @k_sameC0 (And.intro @k_sameCe @k_sameCs)))))))))
def hdR : Hd := ⟨[], [3, 5, 6], [88, 104, 112, 111], [.row 104 0 500000 9, .row 104 0 111 9]⟩
def slR : SL := [(3, .p 88 0 0 0 none), (5, .p 104 0 0 0 none), (6, .p 112 0 0 0 none)]
def obR (z h : List PV) (m : Nat) (xs : List (List PV)) : OB := [(88, box [.blob 32 z] 32), (104, box [.sl 111 0 0 m] 1), (112, box [.blob 32 h] 32), (111, row xs 9 true)]
set_option maxHeartbeats 16000000 in
theorem stepvR (Φ : Sem') (N : Nat) (k : SL → OB → Option R) (z h : List PV) (xs : List (List PV)) (s : St') (hz : z.length = 32) (hh : h.length = 32) (hq : s.2.1.length = 32) (hm : xs.length ≤ 300) (hw : allW 9 xs = true) :
    m28r0 Φ N [] (fun ob => normK k hdR slR ob) slR ((11, .agg (stC s)) :: slR) (obR z h xs.length xs) = cond (s.2.2 == 0) (k slR (obR z (uL s.2.1) (xs ++ [enC s.1]).length (xs ++ [enC s.1]))) (some (.tup [.sl 0 0 0 xs.length, .agg [.blob 32 h], .i .i64 ((62 * xs.length : Nat) : Int)], [row xs 9 true])) := by
  obtain ⟨e, q, bad⟩ := s
  obtain ⟨e1, e2, e3, e4, e5, e6, e7, e8, e9⟩ := e
  simp only at hq
  have uq := uL_len q
  rw [hq] at uq
  have w1 : IntKind.i64.wrap ((xs.length : Int) * 62) = ((62 * xs.length : Nat) : Int) := by rw [w64 (by omega) (by omega)]; omega
  have l1 : xs.length + 1 ≤ 4294967296 := by omega
  have l2 : ¬ xs.length + 1 ≤ xs.length := by omega
  have t1 : List.take xs.length xs = xs := List.take_length
  have hzl : (List.replicate 32 (PV.i IntKind.u8 0)).length = 32 := rfl
  simp only [slR, obR, hdR, stC, enC, List.cons_append, List.nil_append]
  generalize uL q = u at *
  generalize hz' : List.replicate 32 (PV.i .u8 0) = zz at *
  cases hb : bad == 0
  · have hb' : (bad != 0) = true := by simpa using hb
    simp -implicitDefEqProofs (maxSteps := 1000000) (disch := first | omega | rfl) [m28r0, hz', w1, t1, hb', k_fin3, box, KZ, KY, KS, getS, getO, gS, dropW, takeW, wds, stvs, sea, seaL, refs, refsL, isPureEls, isPures, isPure, noExt, noExts, noExtEls, cellsL, keepS, cntN, boxO, row, putW, two32, -getElem?_pos]
  · have hb' : (bad != 0) = false := by simpa using hb
    simp -implicitDefEqProofs (maxSteps := 1000000) (disch := first | omega | rfl) [m28r0, hz', w1, l1, l2, t1, hb', delS, delO, box, KZ, KY, KS, getS, getO, gS, dropW, takeW, wds, stvs, refs, refsL, refsEls, refsO, isPureEls, isPures, isPure, noExt, noExts, noExtEls, cellsL, keepO, keepS, keysO, refsS, refsOB, cntN, headC, boxO, row, putW, two32, -getElem?_pos]
end
section
theorem sumI'_range (ys : List Int) (hy : ∀ x ∈ ys, 0 ≤ x ∧ x ≤ 255) : ∀ x ∈ sumI' ys, 0 ≤ x ∧ x ≤ 255 :=
  endI_range _ _ _ (rounds_len _ nFirst ys (Nat.le_refl _) rfl).1 (rounds_range _ nFirst ys (Nat.le_refl _) rfl nFirst_range hy) (rounds_rest _ nFirst ys (Nat.le_refl _) hy)
def goodS : List St' → List St'
  | [] => []
  | s :: r => cond (s.2.2 == 0) (s :: goodS r) []
def headS (h : List Int) : List St' → List Int
  | [] => h
  | s :: r => headS s.2.1 r
def okS (l : List St') : Prop := ∀ s ∈ l, s.2.1.length = 32
theorem okS_steps : ∀ (k : Nat) (h bs : List Int), okS (stepsL k h bs)
  | 0, _, _ => fun s hs => by simp [stepsL] at hs
  | k + 1, h, bs => by
    intro s hs
    rw [stepsL] at hs
    split at hs
    · cases hs
    · revert hs
      cases mayE (frE bs) with
      | false => intro hs; simp only [cond_false, List.mem_singleton] at hs; subst hs; rfl
      | true =>
        cases decide (chars (linkH h (frE bs)) = chars (tgE bs)) with
        | false => intro hs; simp only [cond_true, cond_false, List.mem_singleton] at hs; subst hs; exact linkH_len _ _
        | true =>
          intro hs
          simp only [cond_true, List.mem_cons] at hs
          rcases hs with rfl | hs
          · exact linkH_len _ _
          · exact okS_steps k _ _ s hs
theorem steps_len : ∀ (k : Nat) (h bs : List Int), (stepsL k h bs).length ≤ k
  | 0, _, _ => by simp [stepsL]
  | k + 1, h, bs => by
    rw [stepsL]
    split
    · simp
    · cases mayE (frE bs) with
      | false => simp
      | true =>
        cases decide (chars (linkH h (frE bs)) = chars (tgE bs)) with
        | false => simp
        | true => simpa using steps_len k _ _
def outR (h : List Int) (l : List En) : Option R := some (.tup [.sl 0 0 0 l.length, .agg [.blob 32 (uL h)], .i .i64 ((62 * l.length : Nat) : Int)], [row (enL l) 9 true])
theorem enL_app (l : List En) (e : En) : enL l ++ [enC e] = enL (l ++ [e]) := by simp [enL]
set_option maxHeartbeats 8000000 in
theorem endvR (Φ : Sem') (N : Nat) (z h : List Int) (l : List En) (hz : z.length = 32) (hh : h.length = 32) (hm : l.length ≤ 300) : m28e1 Φ N [] slR (obR (uL z) (uL h) l.length (enL l)) = outR h l := by
  have hu := uL_len h
  have hzu := uL_len z
  rw [hh] at hu
  rw [hz] at hzu
  have hl := enL_len l
  have w1 : IntKind.i64.wrap ((l.length : Int) * 62) = ((62 * l.length : Nat) : Int) := by rw [w64 (by omega) (by omega)]; omega
  have t1 : List.take l.length (enL l) = enL l := List.take_of_length_le (by omega)
  simp only [slR, obR, outR]
  generalize enL l = a at *
  generalize uL h = u at *
  generalize uL z = y at *
  simp -implicitDefEqProofs (maxSteps := 1000000) (disch := first | omega | rfl) [m28e1, hl, w1, t1, k_fin3, box, KY, KS, getS, getO, gS, dropW, takeW, wds, sea, seaL, refs, refsL, cntN, row, putW, -getElem?_pos]
theorem roundsR (Φ : Sem') (N : Nat) (z : List Int) (hz : z.length = 32) : ∀ (ss : List St') (h : List Int) (l : List En), okS ss → h.length = 32 → l.length + ss.length ≤ 300 →
    rounds' (m28r0 Φ N []) [11] hdR (m28e1 Φ N []) (stL ss) slR (obR (uL z) (uL h) l.length (enL l)) = outR (headS h (goodS ss)) (l ++ (goodS ss).map (·.1)) := by
  intro ss
  induction ss with
  | nil =>
    intro h l _ hh hl
    rw [show stL [] = [] from rfl, k_rounds0, endvR Φ N z h l hz hh (by simp at hl; omega)]
    simp [goodS, headS]
  | cons s r ih =>
    intro h l ho hh hl
    simp only [List.length_cons] at hl
    rw [show stL (s :: r) = [.agg (stC s)] :: stL r from rfl, k_rounds1, if_pos (by rfl), show zipS [11] [PV.agg (stC s)] slR = (11, .agg (stC s)) :: slR from rfl]
    have h1 := stepvR Φ N (rounds' (m28r0 Φ N []) [11] hdR (m28e1 Φ N []) (stL r)) (uL z) (uL h) (enL l) s (by rw [uL_len]; exact hz) (by rw [uL_len]; exact hh) (ho s (by simp)) (by rw [enL_len]; omega) (allW_en l)
    rw [enL_len] at h1
    rw [h1, goodS]
    cases hb : s.2.2 == 0
    · simp [headS, outR]
    · rw [enL_app, enL_len, cond_true, cond_true, ih s.2.1 (l ++ [s.1]) (fun t ht => ho t (by simp [ht])) (ho s (by simp)) (by simp; omega)]
      simp [headS]
noncomputable def rdS (bs : List Int) : List St' := goodS (stepsL 264 h0 bs)
noncomputable def rdL (bs : List Int) : List En := (rdS bs).map (·.1)
noncomputable def rdH (bs : List Int) : List Int := headS h0 (rdS bs)
theorem hz32 : List.replicate 32 (PV.i .u8 0) = uL zero32L := by simp [uL, zero32L]
set_option maxHeartbeats 16000000 in
theorem V31 (M d : Nat) (bs : List Int) (hb : bs.length ≤ 100000) (hr : ∀ x ∈ bs, 0 ≤ x ∧ x ≤ 255) : sem tab (M + 1000) (d + 10) 28 [.l false (byL bs)] [] = outR (rdH bs) (rdL bs) := by
  rw [sem_succ tab (M + 1000) (d + 9) 28 m28 rfl]
  have h45 := V45 M (d + 1)
  rw [show sumI' [0] = h0 from rfl] at h45
  have h60 := V60 (M + 1000) (d + 8) (byL bs)
  have h81 := V81 M d bs hb hr
  have hR := roundsR (sem tab (M + 1000) (d + 9)) (M + 1000) zero32L rfl (stepsL 264 h0 bs) h0 [] (okS_steps _ _ _) h0_len (by have := steps_len 264 h0 bs; simp; omega)
  simp only [List.nil_append, List.length_nil] at hR
  rw [show outR (headS h0 (goodS (stepsL 264 h0 bs))) (List.map (fun x => x.1) (goodS (stepsL 264 h0 bs))) = outR (rdH bs) (rdL bs) from rfl] at hR
  have ul := uL_len h0
  rw [h0_len] at ul
  generalize outR (rdH bs) (rdL bs) = res at *
  generalize stL (stepsL 264 h0 bs) = a at *
  simp only [slR, obR] at hR
  simp only [hdR] at hR
  rw [show enL [] = [] from rfl] at hR
  generalize byL bs = b at *
  generalize uL h0 = u at *
  rw [← hz32] at hR
  have hzl : (List.replicate 32 (PV.i IntKind.u8 0)).length = 32 := rfl
  generalize hz' : List.replicate 32 (PV.i .u8 0) = zz at *
  have rg := rgF_steps (sem tab (M + 1000) (d + 9)) [(144, box [.l false b] 1), (112, box [.blob 32 u] 32), (112, box [.blob 32 zz] 32), (104, box [.e true] 1), (88, box [.blob 32 zz] 32)] 144 b a rfl rfl rfl (by decide) (by decide) (by decide) (by simp [delO, refsOB, refsO, box, refsEls, refsL, refs, rp, rq]) h81
  simp only [box, row] at rg hR h60
  simp -implicitDefEqProofs (maxSteps := 1000000) (disch := first | omega | rfl) [m28, h45, h60, hz', rg, k_rgO, hR, delS, delO, rp, rq, KZ, KS, getS, getO, gS, zipN, dropW, takeW, wds, refs, refsL, refsEls, refsO, noExt, noExts, noExtEls, ren, renL, renEls, keepO, keepS, keysO, refsS, refsOB, cntN, headC, boxO, row, putW, newOs, renO, noExtO, -getElem?_pos]
end
section
def vfS (t : Nat) : List Int → Nat → List St' → List Int × Int
  | h, n, [] => cond (n == t) (h, 0) (zero32L, 4)
  | h, n, s :: r => cond (s.2.2 == 0) (vfS t s.2.1 (n + 62) r) (zero32L, s.2.2)
noncomputable def vfB (bs : List Int) : List Int × Int := vfS bs.length h0 0 (stepsL 264 h0 bs)
end
section
def byR (l : List Int) : Prop := ∀ x ∈ l, 0 ≤ x ∧ x ≤ 255
theorem byR_app {a b : List Int} (ha : byR a) (hb : byR b) : byR (a ++ b) := fun x hx => (List.mem_append.1 hx).elim (ha x) (hb x)
theorem byR_take {a : List Int} (n : Nat) (ha : byR a) : byR (a.take n) := fun x hx => ha x (List.mem_of_mem_take hx)
theorem byR_drop {a : List Int} (n : Nat) (ha : byR a) : byR (a.drop n) := fun x hx => ha x (List.mem_of_mem_drop hx)
theorem encB_R (e : En) : byR (encB e) := by
  have b := be_range
  exact byR_app (b _ _) (byR_app (b _ _) (byR_app (b _ _) (byR_app (b _ _) (byR_app (b _ _) (byR_app (b _ _) (byR_app (b _ _) (byR_app (b _ _) (b _ _))))))))
theorem linkH_R {h : List Int} (e : En) (hh : byR h) : byR (linkH h e) := sumI'_range _ (byR_app (byR_app (fun x hx => by simp at hx; omega) hh) (encB_R e))
theorem h0_R : byR h0 := sumI'_range _ (fun x hx => by simp at hx; omega)
theorem recL_R : ∀ (l : List En) (h : List Int), byR h → byR (recL h l)
  | [], _, _ => fun x hx => by simp [recL] at hx
  | e :: r, h, hh => byR_app (byR_app (encB_R e) (linkH_R e hh)) (recL_R r _ (linkH_R e hh))
theorem fr_rec (h : List Int) (e : En) (r : List Int) (hm : mayE e = true) (ho : okE e) : frE (encB e ++ linkH h e ++ r) = e := by
  rw [frE, List.append_assoc, List.take_append_of_le_length (by rw [encB_len]; omega), List.take_of_length_le (by rw [encB_len]; omega), get_enc e ho hm]
theorem tg_rec (h : List Int) (e : En) (r : List Int) : tgE (encB e ++ linkH h e ++ r) = linkH h e := by
  have l : (encB e ++ linkH h e).length = 62 := by simp [encB_len, linkH_len]
  rw [tgE, List.take_append_of_le_length (by omega), List.take_of_length_le (by omega), List.drop_append_of_le_length (by rw [encB_len]; omega), List.drop_of_length_le (by rw [encB_len]; omega), List.nil_append]
theorem dr_rec (h : List Int) (e : En) (r : List Int) : (encB e ++ linkH h e ++ r).drop 62 = r := by
  have l : (encB e ++ linkH h e).length = 62 := by simp [encB_len, linkH_len]
  rw [List.drop_append_of_le_length (by omega), List.drop_of_length_le (by omega), List.nil_append]
theorem steps_good (k : Nat) (h : List Int) (e : En) (r : List Int) (hm : mayE e = true) (ho : okE e) : stepsL (k + 1) h (encB e ++ linkH h e ++ r) = (e, linkH h e, 0) :: stepsL k (linkH h e) r := by
  rw [stepsL, fr_rec h e r hm ho, tg_rec, dr_rec, if_neg (by simp only [List.length_append, encB_len, linkH_len]; omega), hm]
  simp
noncomputable def gsL : List Int → List En → List St'
  | _, [] => []
  | h, e :: r => (e, linkH h e, 0) :: gsL (linkH h e) r
theorem steps_app : ∀ (l : List En) (k : Nat) (h r : List Int), l.all mayE = true → (∀ e ∈ l, okE e) → stepsL (l.length + k) h (recL h l ++ r) = gsL h l ++ stepsL k (hdL h l) r
  | [], k, h, r, _, _ => by simp [recL, gsL, hdL]
  | e :: l, k, h, r, hm, ho => by
    simp only [List.all_cons, Bool.and_eq_true] at hm
    rw [show (e :: l).length + k = (l.length + k) + 1 by simp only [List.length_cons]; omega, recL, List.append_assoc, steps_good _ h e _ hm.1 (ho e (by simp)), steps_app l k _ r hm.2 (fun f hf => ho f (by simp [hf]))]
    rfl
theorem good_gs : ∀ (l : List En) (h : List Int) (t : List St'), goodS (gsL h l ++ t) = gsL h l ++ goodS t
  | [], _, _ => rfl
  | e :: l, h, t => by simp only [gsL, List.cons_append, goodS]; rw [good_gs l]; rfl
theorem gs_map : ∀ (l : List En) (h : List Int), (gsL h l).map (·.1) = l
  | [], _ => rfl
  | e :: l, h => by simp [gsL, gs_map l]
theorem gs_head : ∀ (l : List En) (h : List Int) (t : List St'), headS h (gsL h l ++ t) = headS (hdL h l) t
  | [], _, _ => rfl
  | e :: l, h, t => by simp only [gsL, List.cons_append, headS, hdL]; exact gs_head l _ t
theorem gs_vf : ∀ (l : List En) (h : List Int) (t n : Nat) (ss : List St'), vfS t h n (gsL h l ++ ss) = vfS t (hdL h l) (n + 62 * l.length) ss
  | [], _, _, _, _ => rfl
  | e :: l, h, t, n, ss => by
    simp only [gsL, List.cons_append, vfS, hdL, List.length_cons]
    rw [gs_vf l]
    simp only [BEq.rfl, cond_true]
    rw [show n + 62 + 62 * l.length = n + 62 * (l.length + 1) by omega]
theorem steps_short (k : Nat) (h r : List Int) (hr : r.length < 62) : stepsL k h r = [] := by
  cases k with
  | zero => rfl
  | succ k => rw [stepsL, if_pos hr]
theorem rd_recs (l : List En) (r : List Int) (hm : l.all mayE = true) (ho : ∀ e ∈ l, okE e) (hl : l.length ≤ 264) (hr : r.length < 62) :
    rdL (recL h0 l ++ r) = l ∧ rdH (recL h0 l ++ r) = hdL h0 l ∧ vfB (recL h0 l ++ r) = cond (r.length == 0) (hdL h0 l, 0) (zero32L, 4) := by
  have h := steps_app l (264 - l.length) h0 r hm ho
  rw [show l.length + (264 - l.length) = 264 by omega, steps_short _ _ r hr] at h
  refine ⟨?_, ?_, ?_⟩
  · rw [rdL, rdS, h, good_gs]; simp [goodS, gs_map]
  · rw [rdH, rdS, h, good_gs, gs_head]; rfl
  · rw [vfB, h, gs_vf]
    simp only [vfS, List.length_append, recL_len, Nat.zero_add]
    congr 1
    rw [Bool.eq_iff_iff]
    simp only [beq_iff_eq]
    omega
theorem rd_spec : ∀ (k : Nat) (h bs : List Int), byR bs →
    ((goodS (stepsL k h bs)).map (·.1)).all mayE = true ∧ (∀ e ∈ (goodS (stepsL k h bs)).map (·.1), okE e) ∧ hdL h ((goodS (stepsL k h bs)).map (·.1)) = headS h (goodS (stepsL k h bs)) ∧
    62 * (goodS (stepsL k h bs)).length ≤ bs.length ∧ chars (recL h ((goodS (stepsL k h bs)).map (·.1))) = chars (bs.take (62 * (goodS (stepsL k h bs)).length)) ∧
    (bs.length < 62 * (k + 1) → ∀ n, ((vfS (n + bs.length) h n (stepsL k h bs)).2 = 0 ↔ 62 * (goodS (stepsL k h bs)).length = bs.length) ∧ ((vfS (n + bs.length) h n (stepsL k h bs)).2 = 0 → (vfS (n + bs.length) h n (stepsL k h bs)).1 = headS h (goodS (stepsL k h bs)))) := by
  intro k
  induction k with
  | zero =>
    intro h bs hb
    refine ⟨rfl, (fun e he => by cases he), rfl, by simp [stepsL, goodS], by simp [stepsL, goodS, recL], fun hl n => ?_⟩
    simp only [stepsL, goodS, vfS, headS, List.length_nil]
    by_cases c : bs.length = 0
    · have e1 : (n == n + bs.length) = true := by rw [beq_iff_eq]; omega
      rw [e1]; exact ⟨⟨fun _ => by omega, fun _ => rfl⟩, fun _ => rfl⟩
    · have e1 : (n == n + bs.length) = false := by rw [beq_eq_false_iff_ne]; omega
      rw [e1]; exact ⟨⟨fun h' => absurd (show (4 : Int) = 0 from h') (by decide), fun h' => absurd h' (by omega)⟩, fun h' => absurd (show (4 : Int) = 0 from h') (by decide)⟩
  | succ k ih =>
    intro h bs hb
    rw [stepsL]
    by_cases c : bs.length < 62
    · rw [if_pos c]
      refine ⟨rfl, (fun e he => by cases he), rfl, by simp [goodS], by simp [goodS, recL], fun hl n => ?_⟩
      simp only [goodS, vfS, headS, List.length_nil]
      by_cases c : bs.length = 0
      · have e1 : (n == n + bs.length) = true := by rw [beq_iff_eq]; omega
        rw [e1]; exact ⟨⟨fun _ => by omega, fun _ => rfl⟩, fun _ => rfl⟩
      · have e1 : (n == n + bs.length) = false := by rw [beq_eq_false_iff_ne]; omega
        rw [e1]; exact ⟨⟨fun h' => absurd (show (4 : Int) = 0 from h') (by decide), fun h' => absurd h' (by omega)⟩, fun h' => absurd (show (4 : Int) = 0 from h') (by decide)⟩
    · rw [if_neg c]
      cases hm : mayE (frE bs)
      · refine ⟨rfl, (fun e he => by cases he), rfl, by simp [goodS], by simp [goodS, recL], fun hl n => ?_⟩
        simp [goodS, vfS]
        omega
      · cases hs : decide (chars (linkH h (frE bs)) = chars (tgE bs))
        · refine ⟨rfl, (fun e he => by cases he), rfl, by simp [goodS], by simp [goodS, recL], fun hl n => ?_⟩
          simp [goodS, vfS]
          omega
        · simp only [decide_eq_true_eq] at hs
          obtain ⟨i1, i2, i3, i4, i5, i6⟩ := ih (linkH h (frE bs)) (bs.drop 62) (byR_drop 62 hb)
          have ho : okE (frE bs) := by
            have v : ∀ k, 0 ≤ vAt (bs.take 30) k 8 ∧ vAt (bs.take 30) k 8 < 18446744073709551616 := fun k => by
              have hv := val_range (((bs.take 30).drop k).take 8) (byR_take _ (byR_drop _ (byR_take _ hb)))
              have hl : (((bs.take 30).drop k).take 8).length ≤ 8 := by rw [List.length_take]; omega
              have hp : (256 : Int) ^ (((bs.take 30).drop k).take 8).length ≤ 18446744073709551616 := (by decide : ∀ m ≤ 8, (256 : Int) ^ m ≤ 18446744073709551616) _ hl
              exact ⟨hv.1, by unfold vAt; omega⟩
            exact ⟨(v 10).1, (v 10).2, (v 18).1, (v 18).2⟩
          have en : encB (frE bs) = bs.take 30 := enc_get _ (by rw [List.length_take]; omega) (byR_take 30 hb)
          simp only [cond_true, goodS, BEq.rfl, List.map_cons, List.all_cons, hm, Bool.true_and, List.length_cons, hdL, headS, recL, vfS, List.mem_cons]
          generalize goodS (stepsL k (linkH h (frE bs)) (bs.drop 62)) = g at *
          have dl : (bs.drop 62).length = bs.length - 62 := List.length_drop
          refine ⟨i1, fun e he => he.elim (fun e' => e' ▸ ho) (i2 e), i3, by omega, ?_, fun hl n => ?_⟩
          · rw [show 62 * (g.length + 1) = 62 + 62 * g.length by omega, List.take_add]
            have t62 : bs.take 62 = bs.take 30 ++ tgE bs := by
              have := (List.take_append_drop 30 (bs.take 62)).symm
              rw [List.take_take] at this
              exact this
            rw [t62, en]
            simp only [chars, List.map_append] at hs i5 ⊢
            rw [hs, i5]
          · have := i6 (by omega) (n + 62)
            rw [dl, show n + 62 + (bs.length - 62) = n + bs.length by omega] at this
            exact ⟨this.1.trans ⟨fun h => by omega, fun h => by omega⟩, this.2⟩
end
section
def e1E : En := ⟨0, 0, 1, 0, 0, 0, 0, 0, 0⟩
theorem byL_app' (xs ys : List Int) : byL (xs ++ ys) = byL xs ++ byL ys := by simp [byL]
end
section
abbrev So := Int × List Int × Int
def soC (g : Bool) (s : So) : List PV := [.i .i64 s.1, .l g (byL s.2.1), .i .i64 s.2.2]
def mayS (s : So) : Bool := decide (0 ≤ s.1) && (decide (s.1 ≤ 16384) && (decide ((s.2.1.length : Int) ≤ s.1) && (decide (0 ≤ s.2.2) && decide (s.2.2 ≤ (s.2.1.length : Int)))))
theorem k_caf1 (Φ : Sem') (ob : OB) (d f k : Nat) (g g' : Bool) (a c n : Int) (xs ys : List (List PV)) : ca Φ ob d false f [.agg [.i .i64 a, .l g xs, .i .i64 c], .fn k [] [], .l g' ys, .i .i64 n] = ca0R ob d [] (Φ f [.agg [.i .i64 a, .l false xs, .i .i64 c], .fn k [] [], .l false ys, .i .i64 n] []) := by
  have e : reifies ob [.agg [.i .i64 a, .l g xs, .i .i64 c], .fn k [] [], .l g' ys, .i .i64 n] = some ([.agg [.i .i64 a, .l false xs, .i .i64 c], .fn k [] [], .l false ys, .i .i64 n], []) := by simp [reifies, reify, reifyL, reify0]
  have r : reach ob 20 (refsL [PV.agg [.i .i64 a, .l false xs, .i .i64 c], .fn k [] [], .l false ys, .i .i64 n]) [] = some [] := by simp [refsL, refs, reach]
  unfold ca
  simp only [hand, Bool.false_eq_true, if_false, e, r]
  cases Φ f [.agg [.i .i64 a, .l false xs, .i .i64 c], .fn k [] [], .l false ys, .i .i64 n] [] <;> rfl
theorem k_caf2 (Φ : Sem') (ob : OB) (d f k : Nat) (g x : Bool) (a c n : Int) (xs : List (List PV)) : ca Φ ob d false f [.agg [.i .i64 a, .l g xs, .i .i64 c], .fn k [] [], .e x, .i .i64 n] = ca0R ob d [] (Φ f [.agg [.i .i64 a, .l false xs, .i .i64 c], .fn k [] [], .l false [], .i .i64 n] []) := by
  have e : reifies ob [.agg [.i .i64 a, .l g xs, .i .i64 c], .fn k [] [], .e x, .i .i64 n] = some ([.agg [.i .i64 a, .l false xs, .i .i64 c], .fn k [] [], .l false [], .i .i64 n], []) := by simp [reifies, reify, reifyL, reify0]
  have r : reach ob 20 (refsL [PV.agg [.i .i64 a, .l false xs, .i .i64 c], .fn k [] [], .l false [], .i .i64 n]) [] = some [] := by simp [refsL, refs, reach]
  unfold ca
  simp only [hand, Bool.false_eq_true, if_false, e, r]
  cases Φ f [.agg [.i .i64 a, .l false xs, .i .i64 c], .fn k [] [], .l false [], .i .i64 n] [] <;> rfl
theorem k_cavs (Φ : Sem') (ob : OB) (d k o : Nat) (g h h' : Bool) (a c n e a' c' : Int) (xs xs' ys : List (List PV)) (ho : getO ob o = some (box [.i .i64 a, .l h xs, .i .i64 c] 3))
    (H : Φ k [.p 0 0 0 0 none, .l false ys, .i .i64 n] [box [.i .i64 a, .l h xs, .i .i64 c] 3] = some (.i .i64 e, [box [.i .i64 a', .l h' xs', .i .i64 c'] 3])) :
    cav Φ ob d false (.fn k [] []) [.p o 0 0 0 none, .l g ys, .i .i64 n] = some (.i .i64 e, [(o, box [.i .i64 a', .l h' xs', .i .i64 c'] 3)]) := by
  simp only [box] at ho H ⊢
  simp [cav, ca, hand, reifies, reify, reify0, refs, refsL, refsEls, refsO, reach, ho, getOs, idx, renL, ren, renEls, renO, H, back, putOs, newOs, noExt]
theorem k_nc (o v i off : Nat) (b : Option Nat) : nc (.p o v i off b) = some (.p o v i off b) := rfl
set_option maxHeartbeats 4000000 in
theorem L38g (N d : Nat) (g1 g2 : Bool) (xs ys : List Int) (h : xs.length + ys.length ≤ 4294967296) : sem tab (N + 3) (d + 2) 63 [.l false [[.l g1 (byL xs)], [.l g2 (byL ys)]]] [] = some (.sl 0 0 0 (xs.length + ys.length), [row (byL (xs ++ ys)) 1 true]) := by
  rw [sem_succ tab (N + 3) (d + 1) 63 m63 rfl]
  have hx := byL_len xs
  have hy := byL_len ys
  have fx := flat_by xs
  have fy := flat_by ys
  have wx := allW_by xs
  have wy := allW_by ys
  have hap : byL (xs ++ ys) = byL xs ++ byL ys := by simp [byL]
  rw [hap]
  generalize byL xs = a at *
  generalize byL ys = b at *
  rw [← hx, ← hy] at h ⊢
  have n1 : ¬ ((a.length : Int) < 0) := by omega
  have n3 : ¬ ((b.length : Int) < 0) := by omega
  have n2 : ¬ ((a.length : Int) + b.length < 0) := by omega
  have h1 : a.length ≤ 4294967296 := by omega
  have h2 : b.length ≤ 4294967296 := by omega
  clear hx hy hap
  by_cases ha : a = []
  · subst ha
    by_cases hb : b = []
    · subst hb
      simp -implicitDefEqProofs (maxSteps := 1000000) (disch := first | omega | rfl) [m63, m63b0, m63b1, L44', allW, flatEls, KS, getS, getO, gS, zipN, wds, refs, noExt, ren, keepO, keepS, keysO, refsS, refsOB, cntN, headC, setS, row, newOs, renO, noExtO, two32, w64, -getElem?_pos]
    · simp -implicitDefEqProofs (maxSteps := 1000000) (disch := first | omega | rfl) [m63, m63b0, m63b1, L44', allW, flatEls, n3, h2, fy, wy, hb, KS, getS, getO, gS, zipN, wds, refs, noExt, ren, keepO, keepS, keysO, refsS, refsOB, cntN, headC, setS, row, newOs, renO, noExtO, two32, w64, -getElem?_pos]
  · by_cases hb : b = []
    · subst hb
      simp -implicitDefEqProofs (maxSteps := 1000000) (disch := first | omega | rfl) [m63, m63b0, m63b1, L44', allW, flatEls, n1, h1, fx, wx, ha, KS, getS, getO, gS, zipN, wds, refs, noExt, ren, keepO, keepS, keysO, refsS, refsOB, cntN, headC, setS, row, newOs, renO, noExtO, two32, w64, -getElem?_pos]
    · have h3 : ¬ (a.length + b.length ≤ a.length) := by
        have := List.length_pos_iff.2 hb
        omega
      simp -implicitDefEqProofs (maxSteps := 1000000) (disch := first | omega | rfl) [m63, m63b0, m63b1, L44', n1, n2, h3, h1, h, fx, fy, wx, wy, ha, KS, getS, getO, gS, zipN, wds, refs, noExt, ren, keepO, keepS, keysO, refsS, refsOB, cntN, headC, setS, row, newOs, renO, noExtO, two32, w64, -getElem?_pos]
      exact List.take_of_length_le (by simp)
theorem V27s (N d : Nat) (s : So) : sem tab N (d + 1) 27 [.agg (soC false s)] [] = some (.b (mayS s), []) := by
  rw [sem_succ tab N d 27 m27 rfl]
  obtain ⟨c, D, u⟩ := s
  have bl := byL_len D
  simp only [soC, mayS]
  rw [← bl]
  generalize byL D = b at *
  by_cases h1 : 0 ≤ c
  · by_cases h2 : c ≤ 16384
    · by_cases h3 : (b.length : Int) ≤ c
      · by_cases h4 : 0 ≤ u
        · by_cases h5 : u ≤ (b.length : Int)
          all_goals simp -implicitDefEqProofs (maxSteps := 1000000) (disch := first | omega | rfl) [m27, h1, h2, h3, h4, h5, KS, getS, getO, gS, zipN, dropW, wds, refs, boxO, -getElem?_pos]
        · simp -implicitDefEqProofs (maxSteps := 1000000) (disch := first | omega | rfl) [m27, h1, h2, h3, h4, KS, getS, getO, gS, zipN, dropW, wds, refs, boxO, -getElem?_pos]
      · simp -implicitDefEqProofs (maxSteps := 1000000) (disch := first | omega | rfl) [m27, h1, h2, h3, KS, getS, getO, gS, zipN, dropW, wds, refs, boxO, -getElem?_pos]
    · simp -implicitDefEqProofs (maxSteps := 1000000) (disch := first | omega | rfl) [m27, h1, h2, KS, getS, getO, gS, zipN, dropW, wds, refs, boxO, -getElem?_pos]
  · simp -implicitDefEqProofs (maxSteps := 1000000) (disch := first | omega | rfl) [m27, h1, KS, getS, getO, gS, zipN, dropW, wds, refs, boxO, -getElem?_pos]
theorem V74o (N d : Nat) (s : So) (h : s.2.1.length ≤ 100000) : sem tab N (d + 2) 74 [.agg (soC false s)] [] = some (.agg (soC true s), []) := by
  rw [sem_succ tab N (d + 1) 74 m74 rfl]
  obtain ⟨c, D, u⟩ := s
  have h39 := L39 N d D (by simp only at h; omega)
  have bl := byL_len D
  have tk : List.take D.length (byL D) = byL D := List.take_of_length_le (by omega)
  simp only [soC]
  rw [← bl] at h39 tk
  generalize byL D = b at *
  simp only [row] at h39
  simp -implicitDefEqProofs (maxSteps := 1000000) (disch := first | omega | rfl) [m74, h39, tk, KS, getS, getO, gS, zipN, dropW, takeW, wds, sea, seaL, refs, refsL, noExt, ren, boxO, putW, newOs, renO, noExtO, -getElem?_pos]
def leftS (s : So) : Int := cond (mayS s) (s.1 - s.2.1.length) 0
theorem V81l (N d : Nat) (s : So) : sem tab N (d + 2) 81 [.agg (soC false s)] [] = some (.i .i64 (leftS s), []) := by
  rw [sem_succ tab N (d + 1) 81 m81 rfl]
  have h27 := V27s N d s
  unfold leftS
  cases hm : mayS s
  · rw [hm] at h27
    obtain ⟨c, D, u⟩ := s
    simp only [soC] at h27 ⊢
    generalize byL D = b at *
    simp -implicitDefEqProofs (maxSteps := 1000000) (disch := first | omega | rfl) [m81, h27, KS, getS, getO, gS, zipN, dropW, takeW, wds, refs, refsL, noExt, ren, boxO, -getElem?_pos]
  · rw [hm] at h27
    obtain ⟨c, D, u⟩ := s
    simp only [mayS, Bool.and_eq_true, decide_eq_true_eq] at hm
    have w1 : IntKind.i64.wrap (c - (D.length : Int)) = c - (D.length : Int) := w64 (by omega) (by omega)
    have bl := byL_len D
    simp only [soC] at h27 ⊢
    rw [← bl] at w1 ⊢
    generalize byL D = b at *
    simp -implicitDefEqProofs (maxSteps := 1000000) (disch := first | omega | rfl) [m81, h27, w1, KS, getS, getO, gS, zipN, dropW, takeW, wds, refs, refsL, noExt, ren, boxO, -getElem?_pos]
set_option maxHeartbeats 4000000 in
theorem V65w (M d : Nat) (s : So) (g : Bool) (bs : List Int) (n : Int) (h : s.2.1.length ≤ 50000) (hb : bs.length ≤ 50000) :
    sem tab (M + 1000) (d + 3) 65 [.p 0 0 0 0 none, .l false (byL bs), .i .i64 n] [box (soC g s) 3] = cond (decide ((bs.length : Int) > leftS s)) (some (.i .i64 12, [box (soC g s) 3])) (some (.i .i64 0, [box (soC true (s.1, s.2.1 ++ bs, s.2.2)) 3])) := by
  rw [sem_succ tab (M + 1000) (d + 2) 65 m65 rfl]
  have h81 := V81l (M + 1000) d s
  have h63 := L38g (M + 997) d g false s.2.1 bs (by omega)
  obtain ⟨c, D, u⟩ := s
  have bl := byL_len bs
  have dl := byL_len D
  have al := byL_len (D ++ bs)
  rw [List.length_append] at al
  simp only at h63
  have tk : List.take (D.length + bs.length) (byL (D ++ bs)) = byL (D ++ bs) := List.take_of_length_le (by omega)
  generalize leftS (c, D, u) = L at *
  simp only [soC] at h81 ⊢
  rw [← bl, ← dl] at al tk h63
  rw [← bl]
  generalize byL (D ++ bs) = w at *
  generalize byL D = b at *
  generalize byL bs = q at *
  simp only [row] at h63
  by_cases f : (q.length : Int) > L
  · have f' : L < (q.length : Int) := f
    have f3 : decide ((q.length : Int) > L) = true := decide_eq_true f
    simp -implicitDefEqProofs (maxSteps := 1000000) (disch := first | omega | rfl) [m65, h81, f, k_nc, fin, resOs, outOs, outX, seaEls, seaL, resO, sea, one, box, KS, getS, getO, gS, zipN, dropW, takeW, wds, stvs, sea, seaL, refs, refsL, isPureEls, isPures, isPure, noExt, noExts, noExtEls, cellsL, ren, -getElem?_pos]
  · have f' : ¬ L < (q.length : Int) := f
    have f3 : decide ((q.length : Int) > L) = false := decide_eq_false f
    simp -implicitDefEqProofs (maxSteps := 1000000) (disch := first | omega | rfl) [m65, h81, h63, al, tk, f, k_nc, fin, resOs, outOs, outX, seaEls, seaL, resO, sea, one, box, KS, getS, getO, gS, zipN, dropW, takeW, wds, stvs, sea, seaL, refs, refsL, isPureEls, isPures, isPure, noExt, noExts, noExtEls, cellsL, ren, putW, newOs, renO, noExtO, -getElem?_pos]
theorem V66s (N d : Nat) (s : So) (g : Bool) (xs : List (List PV)) (n : Int) :
    sem tab N (d + 1) 66 [.p 0 0 0 0 none, .l false xs, .i .i64 n] [box (soC g s) 3] = some (.i .i64 0, [box (soC g (s.1, s.2.1, s.2.1.length)) 3]) := by
  rw [sem_succ tab N d 66 m66 rfl]
  obtain ⟨c, D, u⟩ := s
  have bl := byL_len D
  simp only [soC]
  rw [← bl]
  generalize byL D = b at *
  simp -implicitDefEqProofs (maxSteps := 1000000) (disch := first | omega | rfl) [m66, k_nc, fin, resOs, outOs, outX, seaEls, seaL, resO, sea, one, box, KS, getS, getO, gS, zipN, dropW, takeW, wds, sea, seaL, putW, -getElem?_pos]
set_option maxHeartbeats 4000000 in
theorem V69c (N d : Nat) (s : So) (g : Bool) (xs : List (List PV)) (n : Int) :
    sem tab N (d + 1) 69 [.p 0 0 0 0 none, .l false xs, .i .i64 n] [box (soC g s) 3] = cond (decide (0 ≤ n ∧ n ≤ s.2.1.length)) (some (.i .i64 0, [box (soC g (s.1, s.2.1.take n.toNat, n)) 3])) (some (.i .i64 1, [box (soC g s) 3])) := by
  rw [sem_succ tab N d 69 m69 rfl]
  obtain ⟨c, D, u⟩ := s
  have bl := byL_len D
  have w := allW_by D
  have bt := byL_take D n.toNat
  simp only [soC]
  rw [← bt, ← bl]
  generalize byL D = b at *
  by_cases f : n < 0
  · have f3 : decide (0 ≤ n ∧ n ≤ (b.length : Int)) = false := decide_eq_false (by omega)
    simp -implicitDefEqProofs (maxSteps := 1000000) (disch := first | omega | rfl) [m69, f, f3, k_nc, fin, resOs, outOs, outX, seaEls, seaL, resO, sea, one, box, KS, getS, getO, gS, zipN, dropW, wds, sea, seaL, -getElem?_pos]
  · by_cases f2 : n > (b.length : Int)
    · have f3 : decide (0 ≤ n ∧ n ≤ (b.length : Int)) = false := decide_eq_false (by omega)
      have f2' : (b.length : Int) < n := f2
      simp -implicitDefEqProofs (maxSteps := 1000000) (disch := first | omega | rfl) [m69, f, f2, f3, k_nc, fin, resOs, outOs, outX, seaEls, seaL, resO, sea, one, box, KS, getS, getO, gS, zipN, dropW, wds, sea, seaL, -getElem?_pos]
    · have f3 : decide (0 ≤ n ∧ n ≤ (b.length : Int)) = true := decide_eq_true (by omega)
      have f2' : ¬ (b.length : Int) < n := f2
      have f4 : n ≤ (b.length : Int) := by omega
      have f5 : 0 ≤ n := by omega
      simp -implicitDefEqProofs (maxSteps := 1000000) (disch := first | omega | rfl) [m69, f, f2, w, f4, f5, k_nc, fin, resOs, outOs, outX, seaEls, seaL, resO, sea, one, box, KS, getS, getO, gS, zipN, dropW, takeW, wds, sea, seaL, putW, -getElem?_pos]
end
section
def stR (s : So) (e : Int) : Option R := some (.tup [.agg (soC true s), .i .i64 e], [])
set_option maxHeartbeats 4000000 in
theorem V64 (N d k : Nat) (s s' : So) (ys : List (List PV)) (n e : Int) (h : s.2.1.length ≤ 100000)
    (H : sem tab N (d + 2) k [.p 0 0 0 0 none, .l false ys, .i .i64 n] [box (soC true s) 3] = some (.i .i64 e, [box (soC true s') 3])) :
    sem tab N (d + 3) 64 [.agg (soC false s), .fn k [] [], .l false ys, .i .i64 n] [] = cond (mayS s) (cond (e == 0) (stR s' 0) (stR s e)) (stR s 1) := by
  rw [sem_succ tab N (d + 2) 64 m64 rfl]
  have h27 := V27s N (d + 1) s
  have h74 := V74o N d s h
  unfold stR
  cases hm : mayS s
  · rw [hm] at h27
    obtain ⟨c, D, u⟩ := s
    simp only [soC] at h27 h74 ⊢
    generalize byL D = b at *
    simp -implicitDefEqProofs (maxSteps := 1000000) (disch := first | omega | rfl) [m64, h27, h74, KS, getS, getO, gS, zipN, dropW, takeW, wds, sea, seaL, refs, refsL, noExt, noExts, ren, renL, boxO, putW, putB, putB1, -getElem?_pos]
  · rw [hm] at h27
    obtain ⟨c, D, u⟩ := s
    obtain ⟨c', D', u'⟩ := s'
    simp only [soC] at h27 h74 H ⊢
    have hk := k_cavs (sem tab N (d + 2)) [(224, box [.i .i64 c, .l true (byL D), .i .i64 u] 3), (128, box [.i .i64 0, .e true, .i .i64 0] 3), (96, box [.i .i64 c, .l false (byL D), .i .i64 u] 3)] 264 k 224 false true true c u n e c' u' (byL D) (byL D') ys rfl H
    generalize byL D = b at *
    generalize byL D' = b' at *
    simp only [box] at hk
    cases he : e == 0
    · have he' : (e != 0) = true := by simpa using he
      simp -implicitDefEqProofs (maxSteps := 1000000) (disch := first | omega | rfl) [m64, h27, h74, hk, he', k_nc, KS, getS, getO, gS, zipN, dropW, takeW, wds, sea, seaL, refs, refsL, noExt, noExts, ren, renL, boxO, putW, putB, putB1, -getElem?_pos]
    · have he' : (e != 0) = false := by simpa using he
      simp -implicitDefEqProofs (maxSteps := 1000000) (disch := first | omega | rfl) [m64, h27, h74, hk, he', k_nc, KS, getS, getO, gS, zipN, dropW, takeW, wds, sea, seaL, refs, refsL, noExt, noExts, ren, renL, boxO, putW, putB, putB1, -getElem?_pos]
def outW (s : So) (bs : List Int) : Option R := cond (mayS s) (cond (decide ((bs.length : Int) > leftS s)) (stR s 12) (stR (s.1, s.2.1 ++ bs, s.2.2) 0)) (stR s 1)
def outC (s : So) (n : Int) : Option R := cond (mayS s) (cond (decide (0 ≤ n ∧ n ≤ s.2.1.length)) (stR (s.1, s.2.1.take n.toNat, n) 0) (stR s 1)) (stR s 1)
def outY (s : So) : Option R := cond (mayS s) (stR (s.1, s.2.1, s.2.1.length) 0) (stR s 1)
theorem V33w (M d : Nat) (s : So) (bs : List Int) (h : s.2.1.length ≤ 50000) (hb : bs.length ≤ 50000) : sem tab (M + 1000) (d + 5) 33 [.agg (soC false s), .l false (byL bs)] [] = outW s bs := by
  rw [sem_succ tab (M + 1000) (d + 4) 33 m33 rfl]
  have h65 := V65w M d s true bs 0 h hb
  have key : sem tab (M + 1000) (d + 4) 64 [.agg (soC false s), .fn 65 [] [], .l false (byL bs), .i .i64 0] [] = outW s bs := by
    cases hf : decide ((bs.length : Int) > leftS s)
    · rw [hf] at h65
      have := V64 (M + 1000) (d + 1) 65 s _ (byL bs) 0 0 (by omega) h65
      rw [this, outW, hf]; rfl
    · rw [hf] at h65
      have := V64 (M + 1000) (d + 1) 65 s s (byL bs) 0 12 (by omega) h65
      rw [this, outW, hf]; rfl
  have two : ∃ s' e, outW s bs = stR s' e := by
    unfold outW; cases mayS s <;> cases decide ((bs.length : Int) > leftS s) <;> exact ⟨_, _, rfl⟩
  obtain ⟨s', e, hs⟩ := two
  rw [hs] at key ⊢
  clear hs h65
  unfold stR at key ⊢
  obtain ⟨c, D, u⟩ := s
  obtain ⟨c', D', u'⟩ := s'
  simp only [soC] at key ⊢
  generalize byL D = b at *
  generalize byL D' = b' at *
  generalize byL bs = q at *
  simp -implicitDefEqProofs (maxSteps := 1000000) (disch := first | omega | rfl) [m33, k_caf1, key, KS, getS, getO, gS, zipN, dropW, takeW, wds, sea, seaL, refs, refsL, noExt, noExts, ren, renL, boxO, putW, -getElem?_pos]
theorem V34y (N d : Nat) (s : So) (h : s.2.1.length ≤ 50000) : sem tab N (d + 4) 34 [.agg (soC false s)] [] = outY s := by
  rw [sem_succ tab N (d + 3) 34 m34 rfl]
  have key : sem tab N (d + 3) 64 [.agg (soC false s), .fn 66 [] [], .l false [], .i .i64 0] [] = outY s :=
    V64 N d 66 s _ [] 0 0 (by omega) (V66s N (d + 1) s true [] 0)
  have two : ∃ s' e, outY s = stR s' e := by
    unfold outY; cases mayS s <;> exact ⟨_, _, rfl⟩
  obtain ⟨s', e, hs⟩ := two
  rw [hs] at key ⊢
  clear hs
  unfold stR at key ⊢
  obtain ⟨c, D, u⟩ := s
  obtain ⟨c', D', u'⟩ := s'
  simp only [soC] at key ⊢
  generalize byL D = b at *
  generalize byL D' = b' at *
  simp -implicitDefEqProofs (maxSteps := 1000000) (disch := first | omega | rfl) [m34, k_caf2, key, KS, getS, getO, gS, zipN, dropW, takeW, wds, sea, seaL, refs, refsL, noExt, noExts, ren, renL, boxO, putW, -getElem?_pos]
theorem V40c (N d : Nat) (s : So) (n : Int) (h : s.2.1.length ≤ 50000) : sem tab N (d + 4) 40 [.agg (soC false s), .i .i64 n] [] = outC s n := by
  rw [sem_succ tab N (d + 3) 40 m40 rfl]
  have h69 := V69c N (d + 1) s true [] n
  have key : sem tab N (d + 3) 64 [.agg (soC false s), .fn 69 [] [], .l false [], .i .i64 n] [] = outC s n := by
    cases hf : decide (0 ≤ n ∧ n ≤ s.2.1.length)
    · rw [hf] at h69
      have := V64 N d 69 s s [] n 1 (by omega) h69
      rw [this, outC, hf]; rfl
    · rw [hf] at h69
      have := V64 N d 69 s _ [] n 0 (by omega) h69
      rw [this, outC, hf]; rfl
  have two : ∃ s' e, outC s n = stR s' e := by
    unfold outC; cases mayS s <;> cases decide (0 ≤ n ∧ n ≤ s.2.1.length) <;> exact ⟨_, _, rfl⟩
  obtain ⟨s', e, hs⟩ := two
  rw [hs] at key ⊢
  clear hs h69
  unfold stR at key ⊢
  obtain ⟨c, D, u⟩ := s
  obtain ⟨c', D', u'⟩ := s'
  simp only [soC] at key ⊢
  generalize byL D = b at *
  generalize byL D' = b' at *
  simp -implicitDefEqProofs (maxSteps := 1000000) (disch := first | omega | rfl) [m40, k_caf2, key, KS, getS, getO, gS, zipN, dropW, takeW, wds, sea, seaL, refs, refsL, noExt, noExts, ren, renL, boxO, putW, -getElem?_pos]
def crS (s : So) (k : Int) : So := cond (mayS s) (s.1, s.2.1.take (s.2.2 + max 0 (min k (s.2.1.length - s.2.2))).toNat, s.2.2 + max 0 (min k (s.2.1.length - s.2.2))) s
theorem k_mn (k : IntKind) (a b : Int) : mnI (.i k a) (.i k b) = some (.i k (min a b)) := by simp only [mnI, if_true]; congr 2; split <;> omega
theorem k_mx (k : IntKind) (a b : Int) : mxI (.i k a) (.i k b) = some (.i k (max a b)) := by simp only [mxI, if_true]; congr 2; split <;> omega
set_option maxHeartbeats 4000000 in
theorem V49c (N d : Nat) (s : So) (k : Int) (h : s.2.1.length ≤ 50000) : sem tab N (d + 5) 49 [.agg (soC false s), .i .i64 k] [] = some (.agg (soC true (crS s k)), []) := by
  rw [sem_succ tab N (d + 4) 49 m49 rfl]
  have h27 := V27s N (d + 3) s
  have h74 := V74o N (d + 2) s (by omega)
  cases hm : mayS s
  · rw [hm] at h27
    have e : crS s k = s := by rw [crS, hm]; rfl
    rw [e]
    obtain ⟨c, D, u⟩ := s
    simp only [soC] at h27 h74 ⊢
    generalize byL D = b at *
    simp -implicitDefEqProofs (maxSteps := 1000000) (disch := first | omega | rfl) [m49, h27, h74, KS, getS, getO, gS, zipN, dropW, takeW, wds, sea, seaL, refs, refsL, noExt, noExts, ren, renL, boxO, putW, -getElem?_pos]
  · rw [hm] at h27
    have hm' := hm
    have h40 := V40c N d s (s.2.2 + max 0 (min k (s.2.1.length - s.2.2))) h
    have e : crS s k = (s.1, s.2.1.take (s.2.2 + max 0 (min k (s.2.1.length - s.2.2))).toNat, s.2.2 + max 0 (min k (s.2.1.length - s.2.2))) := by rw [crS, hm]; rfl
    rw [e]
    simp only [mayS, Bool.and_eq_true, decide_eq_true_eq] at hm'
    rw [outC, hm, decide_eq_true (by omega)] at h40
    simp only [cond_true, stR] at h40
    obtain ⟨c, D, u⟩ := s
    simp only at hm' h h40
    have w1 : IntKind.i64.wrap ((D.length : Int) - u) = (D.length : Int) - u := w64 (by omega) (by omega)
    have w2 : IntKind.i64.wrap (u + max 0 (min k ((D.length : Int) - u))) = u + max 0 (min k ((D.length : Int) - u)) := w64 (by omega) (by omega)
    have bl := byL_len D
    simp only [soC] at h27 h40 ⊢
    rw [← bl] at w1 w2 h40
    rw [← bl]
    generalize hmm : u + max 0 (min k (((byL D).length : Int) - u)) = mm at *
    generalize byL (List.take mm.toNat D) = b' at *
    generalize byL D = b at *
    simp -implicitDefEqProofs (maxSteps := 1000000) (disch := first | omega | rfl) [m49, h27, h40, w1, w2, hmm, k_mn, k_mx, KS, getS, getO, gS, zipN, dropW, takeW, wds, sea, seaL, refs, refsL, noExt, noExts, ren, renL, boxO, putW, -getElem?_pos]
theorem V44n (N d : Nat) (r : Int) : sem tab N (d + 2) 44 [.i .i64 r] [] = cond (mayS (r, [], 0)) (some (.tup [.agg (soC true (r, [], 0)), .b true], [])) (some (.tup [.agg (soC true (0, [], 0)), .b false], [])) := by
  rw [sem_succ tab N (d + 1) 44 m44 rfl]
  have h27 := V27s N d (r, [], 0)
  simp only [soC, show byL [] = [] from rfl] at h27 ⊢
  cases hm : mayS (r, [], 0) <;> rw [hm] at h27 <;> simp -implicitDefEqProofs (maxSteps := 1000000) (disch := first | omega | rfl) [m44, h27, KS, getS, getO, gS, zipN, dropW, takeW, wds, sea, seaL, refs, refsL, noExt, ren, boxO, putW, putB, -getElem?_pos]
def sameS (s t : So) : Bool := s.1 == t.1 && (s.2.2 == t.2.2 && decide (chars s.2.1 = chars t.2.1))
theorem V54s (N d : Nat) (s t : So) : sem tab N (d + 2) 54 [.agg (soC false s), .agg (soC false t)] [] = some (.b (sameS s t), []) := by
  rw [sem_succ tab N (d + 1) 54 m54 rfl]
  have h72 := V72 N d s.2.1 t.2.1
  obtain ⟨c, D, u⟩ := s
  obtain ⟨c', D', u'⟩ := t
  simp only [soC, sameS] at h72 ⊢
  generalize decide (chars D = chars D') = q at *
  generalize byL D = b at *
  generalize byL D' = b' at *
  cases e1 : c == c'
  · simp -implicitDefEqProofs (maxSteps := 1000000) (disch := first | omega | rfl) [m54, e1, KS, getS, getO, gS, zipN, dropW, wds, refs, boxO, -getElem?_pos]
  · cases e2 : u == u'
    · simp -implicitDefEqProofs (maxSteps := 1000000) (disch := first | omega | rfl) [m54, e1, e2, KS, getS, getO, gS, zipN, dropW, wds, refs, boxO, -getElem?_pos]
    · simp -implicitDefEqProofs (maxSteps := 1000000) (disch := first | omega | rfl) [m54, e1, e2, h72, KS, getS, getO, gS, zipN, dropW, wds, refs, refsL, noExt, ren, boxO, -getElem?_pos]
end
section
abbrev Lo := So × List En × List Int
def loC (g : Bool) (l : Lo) : List PV := [.i .i64 l.1.1, .l g (byL l.1.2.1), .i .i64 l.1.2.2, .l g (enL l.2.1), .blob 32 (uL l.2.2)]
theorem L39e (N d : Nat) (l : List En) (h : l.length ≤ 4294967296) : sem tab N (d + 1) 59 [.l false (enL l)] [] = some (.sl 0 0 0 l.length, [row (enL l) 9 true]) := by
  rw [sem_succ tab N d 59 m59 rfl]
  cases l with
  | nil => simp -implicitDefEqProofs (disch := first | omega | rfl) [m59, enL, allW, flatEls, eqV, eqOs, eqO, eqEls, KS, getS, getO, gS, zipN, refs, cntN, row, eNl, two32, -getElem?_pos]
  | cons x r =>
    have hf := flat_en (x :: r)
    have hw := allW_en (x :: r)
    have hl := enL_len (x :: r)
    generalize hb : enL (x :: r) = b at hf hw hl
    have hne : ∃ y s, b = y :: s := by rw [← hb]; exact ⟨_, _, rfl⟩
    obtain ⟨y, s, rfl⟩ := hne
    have hl2 : r.length = s.length := by simp at hl; omega
    have hle : s.length ≤ 4294967295 := by simp at h; omega
    simp -implicitDefEqProofs (disch := first | omega | rfl) [m59, hw, hf, hle, hl2, KS, getS, getO, gS, zipN, refs, cntN, row, eNl, two32, -getElem?_pos]
set_option maxHeartbeats 4000000 in
theorem V30o (N d : Nat) (l : Lo) (h : l.1.2.1.length ≤ 50000) (h2 : l.2.1.length ≤ 50000) : sem tab N (d + 2) 30 [.agg (loC false l)] [] = some (.agg [.i .i64 l.1.1, .sl 0 0 0 l.1.2.1.length, .i .i64 l.1.2.2, .sl 1 0 0 l.2.1.length, .blob 32 (uL l.2.2)], [row (byL l.1.2.1) 1 true, row (enL l.2.1) 9 true]) := by
  rw [sem_succ tab N (d + 1) 30 m30 rfl]
  obtain ⟨⟨c, D, u⟩, L, H⟩ := l
  simp only at h h2
  have h39 := L39 N d D (by omega)
  have h39e := L39e N d L (by omega)
  have bl := byL_len D
  have el := enL_len L
  have tk : List.take D.length (byL D) = byL D := List.take_of_length_le (by omega)
  have tke : List.take L.length (enL L) = enL L := List.take_of_length_le (by omega)
  simp only [loC]
  rw [← bl] at h39 tk
  rw [← el] at h39e tke
  rw [← bl, ← el]
  generalize byL D = b at *
  generalize enL L = a at *
  generalize uL H = q at *
  generalize hz' : List.replicate 32 (PV.i .u8 0) = zz at *
  simp only [row] at h39 h39e
  simp -implicitDefEqProofs (maxSteps := 1000000) (disch := first | omega | rfl) [m30, h39, h39e, hz', finG, reach, getOs, idx, one, KS, getS, getO, gS, zipN, dropW, takeW, wds, stvs, refs, refsL, refsO, noExt, ren, renL, boxO, row, putW, newOs, renO, noExtO, -getElem?_pos]
noncomputable def mayG (l : Lo) : Bool := l.2.1.all mayE && (mayS l.1 && (l.1.2.2 == (l.1.2.1.length : Int) && (decide (chars (recL h0 l.2.1) = chars l.1.2.1) && decide (hdL h0 l.2.1 = l.2.2))))
theorem eqIs_dec (a b : List Int) (h : a.length = b.length) : eqIs (uL a) (uL b) = some (decide (a = b)) := by
  have key : ∀ (a b : List Int), a.length = b.length → eqIs (uL a) (uL b) = some (decide (a = b)) := by
    intro a
    induction a with
    | nil => intro b h; cases b with | nil => rfl | cons y s => simp at h
    | cons x r ih =>
      intro b h
      cases b with
      | nil => simp at h
      | cons y s =>
        have := ih s (by simpa using h)
        simp only [uL, List.map_cons, eqIs, eqI, if_true] at this ⊢
        rw [this]
        simp only
        congr 1
        rw [Bool.eq_iff_iff]
        simp
  exact key a b h
set_option maxHeartbeats 8000000 in
theorem V22g (M d : Nat) (l : Lo) (hl : l.2.1.length ≤ 264) (ho : ∀ e ∈ l.2.1, okE e) (hh : l.2.2.length = 32) : sem tab (M + 1000) (d + 10) 22 [.agg (loC false l)] [] = some (.b (mayG l), []) := by
  rw [sem_succ tab (M + 1000) (d + 9) 22 m22 rfl]
  have h32 := V32 M d l.2.1 hl ho
  have h27 := V27s (M + 1000) (d + 8) l.1
  have h72 := V72 (M + 1000) (d + 8) (recL h0 l.2.1) l.1.2.1
  have he := eqIs_dec (hdL h0 l.2.1) l.2.2 (by rw [hdL_len _ _ h0_len, hh])
  unfold mayG
  obtain ⟨⟨c, D, u⟩, L, H⟩ := l
  simp only at hl ho hh h32 h27 h72 he ⊢
  have rl := recL_len L h0
  have ql := byL_len (recL h0 L)
  have tkq : List.take (recL h0 L).length (byL (recL h0 L)) = byL (recL h0 L) := List.take_of_length_le (by omega)
  have hzl : (List.replicate 32 (PV.i IntKind.u8 0)).length = 32 := rfl
  have bl := byL_len D
  have uh := uL_len H
  rw [hh] at uh
  have u2 := uL_len (hdL h0 L)
  rw [hdL_len _ _ h0_len] at u2
  have hz := hz32
  simp only [loC, soC, yesPut, noPut] at h32 h27 ⊢
  cases hm : L.all mayE
  · rw [hm] at h32
    simp only [cond_false, ← hz, row] at h32
    clear hz he h72
    generalize byL D = b at *
    generalize enL L = a at *
    generalize uL H = q at *
    generalize hz' : List.replicate 32 (PV.i .u8 0) = zz at *
    simp -implicitDefEqProofs (maxSteps := 1000000) (disch := first | omega | rfl) [m22, h32, hz', KS, getS, getO, gS, zipN, dropW, takeW, wds, refs, refsL, noExt, noExts, ren, renL, boxO, putW, newOs, renO, noExtO, -getElem?_pos]
  · rw [hm] at h32
    simp only [cond_true, row] at h32
    generalize decide (chars (recL h0 L) = chars D) = q1 at *
    generalize decide (hdL h0 L = H) = q2 at *
    rw [← bl]
    rw [← ql] at tkq h32
    generalize byL (recL h0 L) = w at *
    generalize uL (hdL h0 L) = v at *
    generalize byL D = b at *
    generalize enL L = a at *
    generalize uL H = q at *
    generalize hz' : List.replicate 32 (PV.i .u8 0) = zz at *
    cases hs : mayS (c, D, u)
    · rw [hs] at h27
      simp -implicitDefEqProofs (maxSteps := 1000000) (disch := first | omega | rfl) [m22, h32, h27, hz', KS, getS, getO, gS, zipN, dropW, takeW, wds, refs, refsL, noExt, noExts, ren, renL, boxO, putW, newOs, renO, noExtO, -getElem?_pos]
    · rw [hs] at h27
      cases e1 : u == (b.length : Int)
      · simp -implicitDefEqProofs (maxSteps := 1000000) (disch := first | omega | rfl) [m22, h32, h27, e1, hz', KS, getS, getO, gS, zipN, dropW, takeW, wds, refs, refsL, noExt, noExts, ren, renL, boxO, putW, newOs, renO, noExtO, -getElem?_pos]
      · cases q1
        · simp -implicitDefEqProofs (maxSteps := 1000000) (disch := first | omega | rfl) [m22, h32, h27, h72, e1, tkq, hz', KS, getS, getO, gS, zipN, dropW, takeW, wds, refs, refsL, noExt, noExts, ren, renL, boxO, putW, newOs, renO, noExtO, -getElem?_pos]
        · cases q2
          · simp -implicitDefEqProofs (maxSteps := 1000000) (disch := first | omega | rfl) [m22, h32, h27, h72, he, e1, tkq, hz', KS, getS, getO, gS, zipN, dropW, takeW, wds, refs, refsL, noExt, noExts, ren, renL, boxO, putW, newOs, renO, noExtO, -getElem?_pos]
          · simp -implicitDefEqProofs (maxSteps := 1000000) (disch := first | omega | rfl) [m22, h32, h27, h72, he, e1, tkq, hz', KS, getS, getO, gS, zipN, dropW, takeW, wds, refs, refsL, noExt, noExts, ren, renL, boxO, putW, newOs, renO, noExtO, -getElem?_pos]
def sameG (l m : Lo) : Bool := sameS l.1 m.1 && (sameL l.2.1 m.2.1 && decide (l.2.2 = m.2.2))
set_option maxHeartbeats 4000000 in
theorem V23g (N d : Nat) (l m : Lo) (hl : l.2.1.length < 1000) (hh : l.2.2.length = 32) (hh' : m.2.2.length = 32) : sem tab (N + 1000) (d + 3) 23 [.agg (loC false l), .agg (loC false m)] [] = some (.b (sameG l m), []) := by
  rw [sem_succ tab (N + 1000) (d + 2) 23 m23 rfl]
  have h54 := V54s (N + 1000) d l.1 m.1
  have h37 := V37 N d l.2.1 m.2.1 hl
  have he := eqIs_dec l.2.2 m.2.2 (by omega)
  have uh := uL_len l.2.2
  have uh' := uL_len m.2.2
  rw [hh] at uh
  rw [hh'] at uh'
  unfold sameG
  obtain ⟨⟨c, D, u⟩, L, H⟩ := l
  obtain ⟨⟨c', D', u'⟩, L', H'⟩ := m
  simp only at h54 h37 he uh uh' ⊢
  simp only [loC, soC] at h54 ⊢
  generalize decide (H = H') = q3 at *
  generalize sameL L L' = q2 at *
  generalize sameS (c, D, u) (c', D', u') = q1 at *
  generalize byL D = b at *
  generalize byL D' = b' at *
  generalize enL L = a at *
  generalize enL L' = a' at *
  generalize uL H = q at *
  generalize uL H' = q' at *
  cases q1
  · simp -implicitDefEqProofs (maxSteps := 1000000) (disch := first | omega | rfl) [m23, h54, KS, getS, getO, gS, zipN, dropW, takeW, wds, refs, refsL, noExt, ren, boxO, -getElem?_pos]
  · cases q2
    · simp -implicitDefEqProofs (maxSteps := 1000000) (disch := first | omega | rfl) [m23, h54, h37, KS, getS, getO, gS, zipN, dropW, takeW, wds, refs, refsL, noExt, ren, boxO, -getElem?_pos]
    · cases q3 <;> simp -implicitDefEqProofs (maxSteps := 1000000) (disch := first | omega | rfl) [m23, h54, h37, he, KS, getS, getO, gS, zipN, dropW, takeW, wds, refs, refsL, noExt, ren, boxO, -getElem?_pos]
end
section
def slots (c : Int) : Int := c.tdiv 62
def okC64 (c : Int) : Prop := -9223372036854775808 ≤ c ∧ c ≤ 9223372036854775807
theorem slots_range {c : Int} (h : okC64 c) : -200000000000000000 ≤ slots c ∧ slots c ≤ 200000000000000000 := by
  unfold okC64 at h
  unfold slots
  by_cases h0 : 0 ≤ c
  · rw [Int.tdiv_eq_ediv_of_nonneg h0]; omega
  · have e : c.tdiv 62 = -((-c).tdiv 62) := by rw [Int.neg_tdiv]; omega
    rw [e, Int.tdiv_eq_ediv_of_nonneg (by omega)]; omega
def lbox (g : Bool) (l : Lo) : Obj' := box (loC g l) 36
theorem V60s (N d : Nat) (g : Bool) (l : Lo) (h : okC64 l.1.1) : sem tab N (d + 1) 60 [.p 0 0 0 0 none] [lbox g l] = some (.i .i64 (slots l.1.1), [lbox g l]) := by
  rw [sem_succ tab N d 60 m60 rfl]
  obtain ⟨⟨c, D, u⟩, L, H⟩ := l
  have sr := slots_range h
  simp only at h sr
  have w : IntKind.i64.wrap (c.tdiv 62) = c.tdiv 62 := by unfold slots at sr; exact w64 (by omega) (by omega)
  simp only [lbox, loC, slots]
  generalize byL D = b at *
  generalize enL L = a at *
  generalize uL H = q at *
  simp -implicitDefEqProofs (maxSteps := 1000000) (disch := first | omega | rfl) [m60, w, k_nc, fin, resOs, refsOuts, refsX, outOs, outX, seaEls, seaL, resO, sea, one, box, KS, getS, getO, gS, zipN, dropW, sea, seaL, refs, refsL, refsEls, refsO, row, -getElem?_pos]
theorem k_crs (Φ : Sem') (ob : OB) (d k o : Nat) (g : Bool) (l : Lo) (n : Int) (ho : getO ob o = some (lbox g l)) (H : Φ k [.p 0 0 0 0 none] [lbox g l] = some (.i .i64 n, [lbox g l])) :
    cr Φ ob d false k [.p o 0 0 0 none] = some (.i .i64 n, []) := by
  have hc : ca Φ ob d false k [.p o 0 0 0 none] = some (.i .i64 n, [(o, lbox g l)]) := by
    obtain ⟨⟨c, D, u⟩, L, Hd⟩ := l
    simp only [lbox, loC, box] at ho H ⊢
    simp [ca, hand, reifies, reify, reify0, refs, refsL, refsEls, refsO, reach, ho, getOs, idx, renL, ren, renEls, renO, H, back, putOs, newOs, noExt]
  have hj : ∀ j, getO ([(o, lbox g l)] ++ ob) j = getO ob j := fun j => by
    change (if o = j then some (lbox g l) else getO ob j) = getO ob j
    split
    · rename_i e; subst e; exact ho.symm
    · rfl
  rw [cr, hc, crX, if_pos ⟨hj, rfl⟩]
def waitN (l : Lo) : Int := max 0 (slots l.1.1 - 4 - l.2.1.length)
set_option maxHeartbeats 4000000 in
theorem V31r (N d : Nat) (g : Bool) (l : Lo) (h : okC64 l.1.1) (hl : l.2.1.length ≤ 50000) : sem tab N (d + 2) 31 [.p 0 0 0 0 none] [lbox g l] = some (.tup [.b (decide ((l.2.1.length : Int) < slots l.1.1)), .i .i64 (waitN l)], [lbox g l]) := by
  rw [sem_succ tab N (d + 1) 31 m31 rfl]
  have hk := fun n => k_crs (sem tab N (d + 1)) [(0, lbox g l)] n 60 0 g l _ rfl (V60s N d g l h)
  have sr := slots_range h
  unfold waitN
  obtain ⟨⟨c, D, u⟩, L, H⟩ := l
  simp only at h sr hl hk ⊢
  have el := enL_len L
  generalize slots c = s at *
  have w1 : IntKind.i64.wrap (s - 4) = s - 4 := w64 (by omega) (by omega)
  have w2 : IntKind.i64.wrap (s - 4 - (L.length : Int)) = s - 4 - (L.length : Int) := w64 (by omega) (by omega)
  simp only [lbox, loC, box] at hk ⊢
  rw [← el] at w2
  rw [← el]
  generalize byL D = b at *
  generalize enL L = a at *
  generalize uL H = q at *
  simp -implicitDefEqProofs (maxSteps := 1000000) (disch := first | omega | rfl) [m31, hk, w1, w2, k_mx, k_nc, fin, resOs, refsOuts, refsX, outOs, outX, seaEls, seaL, resO, sea, one, KS, getS, getO, gS, zipN, dropW, sea, seaL, refs, refsL, refsEls, refsO, row, -getElem?_pos]
theorem k_ca31 (Φ : Sem') (ob : OB) (d k o : Nat) (g : Bool) (l : Lo) (x : Bool) (n : Int) (ho : getO ob o = some (lbox g l)) (H : Φ k [.p 0 0 0 0 none] [lbox g l] = some (.tup [.b x, .i .i64 n], [lbox g l])) :
    ca Φ ob d false k [.p o 0 0 0 none] = some (.tup [.b x, .i .i64 n], [(o, lbox g l)]) := by
  obtain ⟨⟨c, D, u⟩, L, Hd⟩ := l
  simp only [lbox, loC, box] at ho H ⊢
  simp [ca, hand, reifies, reify, reify0, refs, refsL, refsEls, refsO, reach, ho, getOs, idx, renL, ren, renEls, renO, H, back, putOs, newOs, noExt, noExts]
end
end Go.Proofs.YtmhpkdcnhgmblaaDoor
