/- Plain lemmas, part 3. -/
import Derived.Test.YtmhpkdcnhgmblaaPgB
set_option linter.all false
set_option linter.unusedSimpArgs false
set_option linter.unusedVariables false
namespace Go.Proofs.Ytmhpkdcnhgmblaa
open Go
section
attribute [local congr] bnd_cg bndO_cg br_cg
theorem cpy_id (ob : OB) (ys : List Int) (hy : ys.length = 32) (ho : getO ob 144 = some { els := [[.blob 32 (uL z32)]], w := 32, pu := false, g := true, cap := none, ver := 0, fro := false }) : cpy ob 1 (.bs 144 0 0 32) (.l false (byL ys)) = some (.i .i64 32, [(144, { els := [[.blob 32 (uL ys)]], w := 32, pu := false, g := true, cap := none, ver := 0, fro := false })]) := by
  have hl := byL_len ys
  have hz : (uL z32).length = 32 := by rw [uL_len]; rfl
  have hs := scal_by ys
  have hf := flat_take ys 32
  rw [List.take_of_length_le (l := ys) (by omega)] at hf
  have ul := uL_len ys
  rw [hy] at hl ul
  have hd : List.drop 32 (uL z32) = [] := List.drop_of_length_le (by omega)
  generalize uL ys = t at *
  generalize uL z32 = z at *
  generalize byL ys = b at *
  simp [cpy, cont, contL, cpC, cpX, cpyB, cpyE, cpyD, ho, dropW, takeW, wd, hs, hf, hz, hl, hd]
theorem slc_to (ob : OB) (b : List (List PV)) (i : Nat) (hw : allW 1 b = true) (hi : i ≤ b.length) : slc ob (.slice 1) (.l false b) none (some (.i .i64 i)) none = some (.l false (b.take i), []) := by
  simp [slc, hw, slL, optI, natI, hi]
set_option maxHeartbeats 8000000 in
/-- With a tag. -/
theorem e15b (Φ : Sem') (N : Nat) (g : SL → OB → Option R) (b p : List Int) (l : List (List PV)) (s : List Nat) (k : Int) (cut pl : Bool) (c : List (List PV)) (h : Fra) (hb : b.length ≤ 64) (h35 : 35 ≤ b.length) (hz : h.tag = z32) (hx : (byL b)[2]? = some [.i .u8 k]) (hk : 0 ≤ k ∧ k ≤ 6)
    (hp : p.length ≤ 100) (rp : ∀ x ∈ p, 0 ≤ x ∧ x ≤ 255) (rb : ∀ x ∈ b, 0 ≤ x ∧ x ≤ 255)
    (H31 : Φ 31 [.l false (byL ((b.drop 3).take (b.length - 35))), .l false (kL s)] [] = outC cut c)
    (H32 : cut = true → Φ 32 [.i .i64 k, .l false c] [] = some (.agg (frC h), []))
    (H14 : Φ 14 [.agg (frC { h with tag := b.drop (b.length - 32) })] [] = outP pl p) :
    m15b0 Φ N [] g (sl15 (byL b) true s.length s.length) (ob15 l s) = cond (cut && (pl && decide (p = b))) (okR { h with tag := b.drop (b.length - 32) }) (errR 3) := by
  have hu' := uz32.symm
  have zl2 : (uL z32).length = 32 := by rw [uL_len]; rfl
  have sl := kL_len s
  have st : List.take s.length (kL s) = kL s := List.take_of_length_le (by omega)
  have wb := allW_by b
  have bl := byL_len b
  have hr := drop_by b 3
  have wr := allW_by (b.drop 3)
  have rl := byL_len (b.drop 3)
  rw [List.length_drop] at rl
  have ub := unB_by b
  have up := unB_by p
  have lp := byL_len p
  have tp : List.take p.length (byL p) = byL p := List.take_of_length_le (by omega)
  have de := dec_charsF p b rp rb
  have h3i : (3 : Int) ≤ (byL b).length := by omega
  have w1 : IntKind.i64.wrap k = k := by rw [IntKind.wrap_i64]; omega
  have tc : List.take c.length c = c := List.take_length
  have c32 : ((byL (b.drop 3)).length : Int) ≥ 32 := by omega
  have wi : IntKind.i64.wrap (((byL (b.drop 3)).length : Int) - 32) = ((b.length - 35 : Nat) : Int) := by rw [IntKind.wrap_i64]; omega
  have d1 : (byL (b.drop 3)).drop (b.length - 35) = byL (b.drop (b.length - 32)) := by
    rw [drop_by, List.drop_drop]; congr 2; omega
  have d2 : (byL (b.drop 3)).take (b.length - 35) = byL ((b.drop 3).take (b.length - 35)) := by simp [byL, List.map_take]
  have s1 : ∀ ob, slc ob (.slice 1) (.l false (byL (b.drop 3))) (some (.i .i64 ((b.length - 35 : Nat) : Int))) none none = some (.l false (byL (b.drop (b.length - 32))), []) := fun ob => by rw [slc_at ob _ _ wr (by omega), d1]
  have s2 : ∀ ob, slc ob (.slice 1) (.l false (byL (b.drop 3))) none (some (.i .i64 ((b.length - 35 : Nat) : Int))) none = some (.l false (byL ((b.drop 3).take (b.length - 35))), []) := fun ob => by rw [slc_to ob _ _ wr (by omega), d2]
  have hT : (b.drop (b.length - 32)).length = 32 := by rw [List.length_drop]; omega
  have cp : ∀ S : OB, cpy ((144, { els := [[.blob 32 (uL z32)]], w := 32, pu := false, g := true, cap := none, ver := 0, fro := false }) :: S) 1 (.bs 144 0 0 32) (.l false (byL (b.drop (b.length - 32)))) = some (.i .i64 32, [(144, { els := [[.blob 32 (uL (b.drop (b.length - 32)))]], w := 32, pu := false, g := true, cap := none, ver := 0, fro := false })]) := fun S => cpy_id _ _ hT rfl
  have tl : (uL (b.drop (b.length - 32))).length = 32 := by rw [uL_len, hT]
  rw [← de]
  clear de rp rb hp d1 d2 hT wr
  unfold outC at H31
  unfold outP at H14
  obtain ⟨a1, a2, a3, a4, a5, a6, a7, a8, a9⟩ := h
  simp only at hz
  subst hz
  simp only [frC, zeF, fbox, box, row, sl15, ob15, errR, okR] at *
  generalize chars p = sp at *
  generalize chars b = sb at *
  generalize byL ((b.drop 3).take (b.length - 35)) = r2 at *
  generalize byL (b.drop (b.length - 32)) = v at *
  generalize uL (b.drop (b.length - 32)) = T at *
  generalize byL (b.drop 3) = r at *
  generalize ((b.length - 35 : Nat) : Int) = i at *
  generalize byL b = y at *
  generalize byL p = x at *
  generalize p.length = n at *
  generalize uL z32 = z at *
  generalize kL s = q at *
  generalize hcm : c.length = m at *
  cases cut
  · simp only [cond_false, Bool.false_and] at H31 ⊢
    clear H32 H14
    simp -implicitDefEqProofs (maxSteps := 1000000) (disch := first | omega | rfl) [m15b0, H31, sl, st, wb, hr, h3i, c32, wi, s1, s2, cp, tl, hu', zl2, -List.reduceReplicate, boxO, KVl, KF, KS, getS, getO, gS, zipN, dropW, takeW, wds, stvs, sea, seaL, refs, refsL, refsEls, refsO, isPureEls, isPures, isPure, noExt, noExts, noExtEls, cellsL, ren, renL, renEls, keepO, keepS, keysO, refsS, refsOB, headC, setS, boxO, row, putW, putB, putB1, eNl, newOs, frz, renO, noExtO, zps, zp, two32, w64, -getElem?_pos, k_cnt, k_cnt0]
  · simp only [cond_true, Bool.true_and] at H31 ⊢
    have H32 := H32 rfl
    cases pl
    · simp only [cond_false, Bool.false_and] at H14 ⊢
      simp -implicitDefEqProofs (maxSteps := 1000000) (disch := first | omega | rfl) [m15b0, H31, H32, H14, hx, w1, tc, hcm, sl, st, wb, hr, h3i, c32, wi, s1, s2, cp, tl, hu', zl2, -List.reduceReplicate, boxO, KVl, KF, KS, getS, getO, gS, zipN, dropW, takeW, wds, stvs, sea, seaL, refs, refsL, refsEls, refsO, isPureEls, isPures, isPure, noExt, noExts, noExtEls, cellsL, ren, renL, renEls, keepO, keepS, keysO, refsS, refsOB, headC, setS, boxO, row, putW, putB, putB1, eNl, newOs, frz, renO, noExtO, zps, zp, two32, w64, -getElem?_pos, k_cnt, k_cnt0]
    · simp only [cond_true, Bool.true_and] at H14 ⊢
      cases e : decide (sp = sb) <;> simp only [cond_true, cond_false] <;>
      simp -implicitDefEqProofs (maxSteps := 1000000) (disch := first | omega | rfl) [m15b0, H31, H32, H14, e, ub, up, lp, tp, hx, w1, tc, hcm, sl, st, wb, hr, h3i, c32, wi, s1, s2, cp, tl, hu', zl2, -List.reduceReplicate, boxO, KVl, KF, KS, getS, getO, gS, zipN, dropW, takeW, wds, stvs, sea, seaL, refs, refsL, refsEls, refsO, isPureEls, isPures, isPure, noExt, noExts, noExtEls, cellsL, ren, renL, renEls, keepO, keepS, keysO, refsS, refsOB, headC, setS, boxO, row, putW, putB, putB1, eNl, newOs, frz, renO, noExtO, zps, zp, two32, w64, -getElem?_pos, k_cnt, k_cnt0]
end
section
attribute [local congr] bnd_cg bndO_cg br_cg
theorem R54g (N d : Nat) (k : Int) (b r : List Int) (hk : inB k 0 6 = true) (hr : ∀ x ∈ b, 0 ≤ x ∧ x ≤ 255) (P : ∀ i j, i + j ≤ sumL (ssF k) → (r.drop i).take j = (b.drop (3 + i)).take j) : sem tab N (d + 1) 32 [.i .i64 k, .l false (cuts r 0 (ssF k))] [] = some (.agg (frC { getF k b with tag := z32 }), []) := by
  have wv : ∀ i j, j ≤ 4 → IntKind.i64.wrap (vAt b i j) = vAt b i j := fun i j h => by
    have := vAt_range b hr i j h
    rw [IntKind.wrap_i64]; omega
  rcases kinds hk with e | e | e | e | e | e | e <;> subst e
  · have e : cuts r 0 (ssF 0) = u64L [vAt b 3 1, vAt b 4 8] := by
      have h : cuts r 0 (ssF 0) = u64L [val ((r.drop 0).take 1), val ((r.drop 1).take 8)] := rfl
      rw [h, P 0 1 (by decide), P 1 8 (by decide)]; rfl
    rw [e, R54_0, wv 3 1 (by decide)]; rfl
  · have e : cuts r 0 (ssF 1) = u64L [vAt b 3 8, vAt b 11 4] := by
      have h : cuts r 0 (ssF 1) = u64L [val ((r.drop 0).take 8), val ((r.drop 8).take 4)] := rfl
      rw [h, P 0 8 (by decide), P 8 4 (by decide)]; rfl
    rw [e, R54_1, wv 11 4 (by decide)]; rfl
  · have e : cuts r 0 (ssF 2) = u64L [vAt b 3 8] := by
      have h : cuts r 0 (ssF 2) = u64L [val ((r.drop 0).take 8)] := rfl
      rw [h, P 0 8 (by decide)]; rfl
    rw [e, R54_2]; rfl
  · have e : cuts r 0 (ssF 3) = u64L [vAt b 3 8] := by
      have h : cuts r 0 (ssF 3) = u64L [val ((r.drop 0).take 8)] := rfl
      rw [h, P 0 8 (by decide)]; rfl
    rw [e, R54_3]; rfl
  · have e : cuts r 0 (ssF 4) = u64L [vAt b 3 8, vAt b 11 8, vAt b 19 1, vAt b 20 2] := by
      have h : cuts r 0 (ssF 4) = u64L [val ((r.drop 0).take 8), val ((r.drop 8).take 8), val ((r.drop 16).take 1), val ((r.drop 17).take 2)] := rfl
      rw [h, P 0 8 (by decide), P 8 8 (by decide), P 16 1 (by decide), P 17 2 (by decide)]; rfl
    rw [e, R54_4, wv 19 1 (by decide), wv 20 2 (by decide)]; rfl
  · have e : cuts r 0 (ssF 5) = u64L [vAt b 3 8, vAt b 11 8, vAt b 19 1, vAt b 20 2] := by
      have h : cuts r 0 (ssF 5) = u64L [val ((r.drop 0).take 8), val ((r.drop 8).take 8), val ((r.drop 16).take 1), val ((r.drop 17).take 2)] := rfl
      rw [h, P 0 8 (by decide), P 8 8 (by decide), P 16 1 (by decide), P 17 2 (by decide)]; rfl
    rw [e, R54_5, wv 19 1 (by decide), wv 20 2 (by decide)]; rfl
  · have e : cuts r 0 (ssF 6) = u64L [vAt b 3 1] := by
      have h : cuts r 0 (ssF 6) = u64L [val ((r.drop 0).take 1)] := rfl
      rw [h, P 0 1 (by decide)]; rfl
    rw [e, R54_6, wv 3 1 (by decide)]; rfl
theorem sum_ss (k : Int) (hk : inB k 0 6 = true) : sumL (ssF k) + 3 = aheadF k := by
  rcases kinds hk with e | e | e | e | e | e | e <;> subst e <;> rfl
theorem getF_tag (k : Int) (b : List Int) (hk : inB k 0 6 = true) : (getF k b).tag = cond (tagdF k) (tgAt b (aheadF k)) z32 := by
  rcases kinds hk with e | e | e | e | e | e | e <;> subst e <;> rfl
theorem ss_ok (k : Int) (hk : inB k 0 6 = true) : (∀ x ∈ ssF k, 1 ≤ x ∧ x ≤ 8) ∧ (ssF k).length ≤ 40 := by
  rcases kinds hk with e | e | e | e | e | e | e <;> subst e <;> decide
theorem gd_len {k : Int} {b : List Int} (hk : inB k 0 6 = true) (hr : ∀ x ∈ b, 0 ≤ x ∧ x ≤ 255) (h : b.length ≠ szF k + 2) : gdK k b = false := by
  have hl := put_get_len k b hk hr
  unfold gdK
  by_cases e : putF (getF k b) = b
  · rw [e] at hl; exact absurd hl h
  · rw [decide_eq_false e, Bool.and_false]
theorem fr_tag (f : Fra) (t : List Int) (h : f.tag = t) : ({ f with tag := t } : Fra) = f := by subst h; rfl
theorem bd_kF (k : Int) (hk : inB k 0 6 = true) : BdF (kF k) := ⟨hk, by simp [kF], by simp [kF], by simp [kF], by simp [kF]⟩
theorem okF_tg {f : Fra} (o : okF f) (t : List Int) (h : t.length = 32) (r : ∀ x ∈ t, 0 ≤ x ∧ x ≤ 255) : okF { f with tag := t } := ⟨o.sess, o.cn, o.count, h, r⟩
set_option maxHeartbeats 2000000 in
theorem R15k (N d : Nat) (k : Int) (b : List Int) (hb : b.length ≤ 64) (h3 : 3 ≤ b.length) (hr : ∀ x ∈ b, 0 ≤ x ∧ x ≤ 255) (hL : longF b = b.length) (hx : (byL b)[2]? = some [.i .u8 k]) (hk : inB k 0 6 = true) :
    sem tab (N + 100) (d + 6) 15 [.l false (byL b)] [] = cond (gdK k b) (okR (getF k b)) (errR 3) := by
  rw [sem_succ tab (N + 100) (d + 5) 15 m15 rfl]
  have bl := byL_len b
  have hk' : 0 ≤ k ∧ k ≤ 6 := by
    rcases kinds hk with e | e | e | e | e | e | e <;> subst e <;> decide
  have H29 : sem tab (N + 100) (d + 5) 29 [.l false (byL b)] [] = some (.i .i64 (byL b).length, []) := by
    have := R29t (N + 100) (d + 4) b (by omega) hr
    rw [hL, ← bl] at this
    exact this
  have H30 : sem tab (N + 100) (d + 5) 30 [.agg (frC (kF k))] [] = some (.tup [.sl 0 0 0 (numsF (kF k)).length, .b (tagdF k)], [row (nuL (numsF (kF k))) 2 true]) := R53 (N + 100) (d + 4) (kF k) (bd_kF k hk)
  have hn := numsF_len (kF k)
  have h1 := st15 (sem tab (N + 100) (d + 5)) (N + 99) (byL b) (nuL (numsF (kF k))) k (tagdF k) (numsF (kF k)).length (by omega) (by omega) hk' (nuL_len _) hx H29 H30
  have h2 := lp15 (sem tab (N + 100) (d + 5)) (N + 100) (byL b) (tagdF k) (numsF (kF k)) (by omega) (numsF (kF k)).length 0 (N + 99 - (numsF (kF k)).length) (by omega)
  rw [show N + 99 - (numsF (kF k)).length + 1 + (numsF (kF k)).length = N + 99 + 1 by omega, k_loop, List.take_zero] at h2
  refine Eq.trans h1 (Eq.trans h2 ?_)
  have hs : (numsF (kF k)).length = (ssF k).length := by unfold ssF; rw [List.length_map]
  rw [hs]
  show m15b0 (sem tab (N + 100) (d + 5)) (N + 100) [] _ (sl15 (byL b) (tagdF k) (ssF k).length (ssF k).length) (ob15 (nuL (numsF (kF k))) (ssF k)) = _
  generalize loopC _ _ = g
  have oG := okF_get k b hr
  have ss := sum_ss k hk
  have az := ahead_sz k hk
  have gt := getF_tag k b hk
  obtain ⟨so1, so2⟩ := ss_ok k hk
  have kG := kind_get k b hk
  by_cases hc : tagdF k = false ∨ b.length < 35
  · have oH : okF { getF k b with tag := z32 } := okF_tg oG z32 z32_len z32_range
    have H31 : sem tab (N + 100) (d + 5) 31 [.l false (byL (b.drop 3)), .l false (kL (ssF k))] [] = outC (decide (sumL (ssF k) = (b.drop 3).length)) (cuts (b.drop 3) 0 (ssF k)) := by
      have := R31 N (d + 3) (b.drop 3) (ssF k) so1 so2 (by rw [List.length_drop]; omega) (fun x hx => hr x (List.mem_of_mem_drop hx))
      refine Eq.trans this ?_
      unfold outC
      by_cases e : sumL (ssF k) = (b.drop 3).length
      · rw [if_pos e, decide_eq_true e]; rfl
      · rw [if_neg e, decide_eq_false e]; rfl
    have H32 := R54g (N + 100) (d + 4) k b (b.drop 3) hk hr (fun i j _ => by rw [List.drop_drop])
    have H14 : sem tab (N + 100) (d + 5) 14 [.agg (frC { getF k b with tag := z32 })] [] = outP (plainF { getF k b with tag := z32 }) (putF { getF k b with tag := z32 }) := R14 N d _ oH
    have pl : (putF { getF k b with tag := z32 }).length = szF k + 2 := by rw [putF_len _ (by show inB (getF k b).kind 0 6 = true; rw [kG]; exact hk) oH.tag]; show szF (getF k b).kind + 2 = _; rw [kG]
    have sz := szF_le k
    refine Eq.trans (e15a _ _ g (tagdF k) b _ _ (ssF k) k _ _ _ _ hb h3 hc rfl hx hk' (by rw [pl]; omega) (putF_range _ oH.tagr) hr H31 (fun _ => H32) H14) ?_
    by_cases e : sumL (ssF k) = (b.drop 3).length
    · rw [decide_eq_true e, Bool.true_and]
      have eG : ({ getF k b with tag := z32 } : Fra) = getF k b := by
        apply fr_tag
        rw [gt]
        cases ht : tagdF k
        · rfl
        · rw [cond_true]
          rw [List.length_drop] at e
          have : b.length = aheadF k := by omega
          unfold tgAt
          rw [List.drop_of_length_le (by omega), this]
          simp
      rw [eG]
      rfl
    · have : gdK k b = false := by
        apply gd_len hk hr
        intro h
        rw [List.length_drop] at e
        cases ht : tagdF k
        · rw [ht, cond_false] at az; omega
        · rw [ht, cond_true] at az
          rcases hc with hc | hc
          · rw [ht] at hc; cases hc
          · have := aheadF_le k; omega
      rw [decide_eq_false e, this]; rfl
  · have ht : tagdF k = true := by
      cases h : tagdF k
      · exact absurd (.inl h) hc
      · rfl
    have h35 : 35 ≤ b.length := by
      rcases Nat.lt_or_ge b.length 35 with h | h
      · exact absurd (.inr h) hc
      · exact h
    rw [ht] at az gt ⊢
    rw [cond_true] at az gt
    have tT : (b.drop (b.length - 32)).length = 32 := by rw [List.length_drop]; omega
    have oH : okF { getF k b with tag := b.drop (b.length - 32) } := okF_tg oG _ tT (fun x hx => hr x (List.mem_of_mem_drop hx))
    have H31 : sem tab (N + 100) (d + 5) 31 [.l false (byL ((b.drop 3).take (b.length - 35))), .l false (kL (ssF k))] [] = outC (decide (sumL (ssF k) = b.length - 35)) (cuts ((b.drop 3).take (b.length - 35)) 0 (ssF k)) := by
      have := R31 N (d + 3) ((b.drop 3).take (b.length - 35)) (ssF k) so1 so2 (by rw [List.length_take, List.length_drop]; omega) (fun x hx => hr x (List.mem_of_mem_drop (List.mem_of_mem_take hx)))
      refine Eq.trans this ?_
      have ln : ((b.drop 3).take (b.length - 35)).length = b.length - 35 := by rw [List.length_take, List.length_drop]; omega
      rw [ln]
      unfold outC
      by_cases e : sumL (ssF k) = b.length - 35
      · rw [if_pos e, decide_eq_true e]; rfl
      · rw [if_neg e, decide_eq_false e]; rfl
    have H14 : sem tab (N + 100) (d + 5) 14 [.agg (frC { getF k b with tag := b.drop (b.length - 32) })] [] = outP (plainF { getF k b with tag := b.drop (b.length - 32) }) (putF { getF k b with tag := b.drop (b.length - 32) }) := R14 N d _ oH
    have pl : (putF { getF k b with tag := b.drop (b.length - 32) }).length = szF k + 2 := by rw [putF_len _ (by show inB (getF k b).kind 0 6 = true; rw [kG]; exact hk) oH.tag]; show szF (getF k b).kind + 2 = _; rw [kG]
    have sz := szF_le k
    refine Eq.trans (e15b _ _ g b _ _ (ssF k) k _ _ _ { getF k b with tag := z32 } hb h35 rfl hx hk' (by rw [pl]; omega) (putF_range _ oH.tagr) hr H31 (fun he => ?_) H14) ?_
    · have e := of_decide_eq_true he
      refine R54g (N + 100) (d + 4) k b _ hk hr (fun i j hij => ?_)
      rw [List.drop_take, List.take_take, List.drop_drop, Nat.min_eq_left (by omega)]
    by_cases e : sumL (ssF k) = b.length - 35
    · rw [decide_eq_true e, Bool.true_and]
      have eG : ({ getF k b with tag := b.drop (b.length - 32) } : Fra) = getF k b := by
        apply fr_tag
        rw [gt]
        have : aheadF k = b.length - 32 := by omega
        unfold tgAt
        rw [this, List.take_of_length_le (by omega)]
        have : min (b.length - (b.length - 32)) 32 = 32 := by omega
        rw [this, List.drop_of_length_le (l := z32) (by rw [z32_len]; omega), List.append_nil]
      show cond (plainF { getF k b with tag := b.drop (b.length - 32) } && decide (putF { getF k b with tag := b.drop (b.length - 32) } = b)) (okR { getF k b with tag := b.drop (b.length - 32) }) (errR 3) = _
      rw [eG]
      rfl
    · have : gdK k b = false := by
        apply gd_len hk hr
        intro h
        omega
      rw [decide_eq_false e, this]; rfl
end
section
attribute [local congr] bnd_cg bndO_cg br_cg
set_option maxHeartbeats 4000000 in
/-- The frame of bytes, or why none. -/
theorem R15 (M d : Nat) (bs : List Int) (hb : bs.length ≤ 10000) (hr : ∀ x ∈ bs, 0 ≤ x ∧ x ≤ 255) : sem tab (M + 1000) (d + 6) 15 [.l false (byL bs)] [] = outRd bs := by
  rw [sem_succ tab (M + 1000) (d + 5) 15 m15 rfl]
  have hl := byL_len bs
  have bad : (longF bs = bs.length → bs.length ≤ 54 → 4 ≤ bs.length → False) → goodF bs = false := fun h => by
    rw [← Bool.not_eq_true]; intro hg
    obtain ⟨g1, g2, g3⟩ := good_len hr hg
    exact h g1 g2 g3
  unfold outRd errF
  have hu' := uz32.symm
  by_cases c1 : (bs.length : Int) > 64
  · rw [bad (by omega), cond_false, if_pos (by omega)]
    unfold errR
    rw [← hl] at c1
    simp only [frC, zeF]
    generalize uL z32 = z at *
    generalize byL bs = b at *
    simp -implicitDefEqProofs (maxSteps := 1000000) (disch := first | omega | rfl) [m15, c1, hu', boxO, -List.reduceReplicate, KF, KS, getS, getO, gS, zipN, dropW, takeW, wds, stvs, sea, seaL, refs, refsL, refsEls, refsO, isPureEls, isPures, isPure, noExt, noExts, noExtEls, cellsL, ren, renL, renEls, keepO, keepS, keysO, refsS, refsOB, headC, setS, boxO, row, putW, putB, putB1, eNl, newOs, frz, renO, noExtO, zps, zp, two32, w64, -getElem?_pos, k_cnt, k_cnt0]
  have h21 : sem tab (M + 1000) (d + 5) 29 [.l false (byL bs)] [] = some (.i .i64 (longF bs), []) := R29t (M + 1000) (d + 4) bs (by omega) hr
  rw [if_neg (show ¬ 64 < bs.length by omega)]
  by_cases c2 : longF bs = -1
  · rw [bad (by omega), cond_false, if_pos c2]
    unfold errR
    rw [c2] at h21
    rw [← hl] at c1
    simp only [frC, zeF]
    generalize uL z32 = z at *
    generalize byL bs = b at *
    simp -implicitDefEqProofs (maxSteps := 1000000) (disch := first | omega | rfl) [m15, h21, c1, hu', boxO, -List.reduceReplicate, KF, KS, getS, getO, gS, zipN, dropW, takeW, wds, stvs, sea, seaL, refs, refsL, refsEls, refsO, isPureEls, isPures, isPure, noExt, noExts, noExtEls, cellsL, ren, renL, renEls, keepO, keepS, keysO, refsS, refsOB, headC, setS, boxO, row, putW, putB, putB1, eNl, newOs, frz, renO, noExtO, zps, zp, two32, w64, -getElem?_pos, k_cnt, k_cnt0]
  rw [if_neg c2]
  by_cases c3 : longF bs = bs.length ∧ longF bs ≠ 2
  · obtain ⟨c3, c4⟩ := c3
    have h3 : 3 ≤ bs.length := by
      rcases long_cases bs hr with h | h <;> omega
    have h2 : 2 < bs.length := by omega
    have hk := hr bs[2] (List.getElem_mem h2)
    have hx : (byL bs)[2]? = some [.i .u8 bs[2]] := by simp [byL, h2]
    have hg : bs.getD 2 0 = bs[2] := by simp [List.getD, h2]
    rw [← gdK_seem, seemF, hg]
    generalize bs[2] = k at *
    cases hi : inB k 0 6
    · have hp : plainF (getF k bs) = false := by
        have : (getF k bs).kind = k := by
          have hh : ¬ (0 ≤ k ∧ k ≤ 6) := by intro h; simp [inB, h.1, h.2] at hi
          unfold getF
          rw [if_neg (by omega), if_neg (by omega), if_neg (by omega), if_neg (by omega), if_neg (by omega), if_neg (by omega)]
        exact plain_kind _ (by rw [this]; exact hi)
      have : gdK k bs = false := by unfold gdK; rw [hp]; rfl
      rw [this, cond_false]
      have k7 : k ≥ 7 := by
        have hh : ¬ (0 ≤ k ∧ k ≤ 6) := by intro h; simp [inB, h.1, h.2] at hi
        omega
      unfold errR
      rw [c3] at h21
      rw [← hl] at c1 h21 h3
      have d1 : ¬ (((byL bs).length : Int) < 0) := by omega
      have d2 : ¬ (((byL bs).length : Int) < 3) := by omega
      simp only [frC, zeF]
      generalize uL z32 = z at *
      generalize byL bs = b at *
      simp -implicitDefEqProofs (maxSteps := 1000000) (disch := first | omega | rfl) [m15, h21, c1, d1, d2, hx, k7, hu', boxO, -List.reduceReplicate, KF, KS, getS, getO, gS, zipN, dropW, takeW, wds, stvs, sea, seaL, refs, refsL, refsEls, refsO, isPureEls, isPures, isPure, noExt, noExts, noExtEls, cellsL, ren, renL, renEls, keepO, keepS, keysO, refsS, refsOB, headC, setS, boxO, row, putW, putB, putB1, eNl, newOs, frz, renO, noExtO, zps, zp, two32, w64, -getElem?_pos, k_cnt, k_cnt0]
    · have := R15k (M + 900) d k bs (by omega) h3 hr c3 hx hi
      rw [show M + 900 + 100 = M + 1000 by omega, sem_succ tab (M + 1000) (d + 5) 15 m15 rfl] at this
      exact this
  · rw [bad (by omega), cond_false]
    unfold errR
    have c2' : ¬ (longF bs < 0) := by rcases long_cases bs hr with h | h <;> omega
    by_cases c4 : longF bs = bs.length
    · have c5 : longF bs = 2 := by omega
      have c6 : (bs.length : Int) = 2 := by omega
      rw [c5] at h21
      rw [← hl] at c1 c6
      simp only [frC, zeF]
      generalize uL z32 = z at *
      generalize byL bs = b at *
      simp -implicitDefEqProofs (maxSteps := 1000000) (disch := first | omega | rfl) [m15, h21, c1, c6, hu', boxO, -List.reduceReplicate, KF, KS, getS, getO, gS, zipN, dropW, takeW, wds, stvs, sea, seaL, refs, refsL, refsEls, refsO, isPureEls, isPures, isPure, noExt, noExts, noExtEls, cellsL, ren, renL, renEls, keepO, keepS, keysO, refsS, refsOB, headC, setS, boxO, row, putW, putB, putB1, eNl, newOs, frz, renO, noExtO, zps, zp, two32, w64, -getElem?_pos, k_cnt, k_cnt0]
    · have c5 : (longF bs != (bs.length : Int)) = true := by simp [c4]
      have c5' : (longF bs == (bs.length : Int)) = false := by simp [c4]
      generalize longF bs = l at *
      rw [← hl] at c1 c5 c5'
      simp only [frC, zeF]
      generalize uL z32 = z at *
      generalize byL bs = b at *
      by_cases c7 : l < 3 <;>
      simp -implicitDefEqProofs (maxSteps := 1000000) (disch := first | omega | rfl) [m15, h21, c1, c2', c5, c5', c7, hu', boxO, -List.reduceReplicate, KF, KS, getS, getO, gS, zipN, dropW, takeW, wds, stvs, sea, seaL, refs, refsL, refsEls, refsO, isPureEls, isPures, isPure, noExt, noExts, noExtEls, cellsL, ren, renL, renEls, keepO, keepS, keysO, refsS, refsOB, headC, setS, boxO, row, putW, putB, putB1, eNl, newOs, frz, renO, noExtO, zps, zp, two32, w64, -getElem?_pos, k_cnt, k_cnt0]
end
section
attribute [local congr] bnd_cg bndO_cg br_cg
set_option maxHeartbeats 8000000 in
/-- One more frame is cut off. -/
theorem step16 (N d : Nat) (g : SL → OB → Option R) (fr : Bool) (b c : List Int) (t : List (List PV)) (a n m i : Nat) (hb : b.length ≤ 990) (hc : c = (b.drop a).take m) (ha : a + m ≤ b.length) (hm : c.length = m) (hr : ∀ x ∈ c, 0 ≤ x ∧ x ≤ 255) (hl : longF c = (n : Nat)) (hn : n ≤ m) (ht : t.length = i) (hi : i ≤ 10000) (hw : allW 1 t = true) :
    m16b0 (sem tab N (d + 1)) N [] g [(4, .sl 103 0 0 i), (5, .sl 128 0 a m)] [(103, row t 1 true), (128, { els := byL b, w := 1, pu := true, g := true, cap := none, ver := 0, fro := fr })] = g [(4, .sl 103 0 0 (i + 1)), (5, .sl 128 0 (a + n) (m - n))] [(103, row (t ++ [[.l true (byL (c.take n))]]) 1 true), (128, { els := byL b, w := 1, pu := true, g := true, cap := none, ver := 0, fro := true })] := by
  have h29 := R29t N d c (by omega) hr
  rw [hl] at h29
  have bl := byL_len b
  have cl := byL_len c
  have e1 : List.take m (List.drop a (byL b)) = byL c := by rw [hc, drop_by]; simp [byL, List.map_take]
  have e2 : List.take n (List.drop a (byL b)) = byL (c.take n) := by
    rw [hc, drop_by, List.take_take, Nat.min_eq_left hn]; simp [byL, List.map_take]
  have t2 : List.take t.length t = t := List.take_length
  have f1 := flat_by (c.take n)
  have f2 := flat_by b
  have wb := allW_by b
  have c0 : ¬ ((n : Int) < 0) := by omega
  have g1 : i + 1 ≤ 4294967296 := by omega
  have g2 : ¬ (i + 1 ≤ i) := by omega
  have g3 : a + m ≤ (byL b).length := by omega
  have g4 : a + n ≤ (byL b).length := by omega
  have tn : ((n : Nat) : Int).toNat = n := by omega
  have g3i : (a : Int) + m ≤ ((byL b).length : Int) := by omega
  have g4i : (a : Int) + n ≤ ((byL b).length : Int) := by omega
  have hni : (n : Int) ≤ m := by omega
  have t4 : ∀ x : List PV, List.take (i + 1) (t ++ [x]) = t ++ [x] := fun x => List.take_of_length_le (by simp [ht])
  rw [ht] at t2
  clear hc hl
  generalize byL (c.take n) = u at *
  generalize byL c = v at *
  generalize byL b = y at *
  simp only [row] at *
  simp -implicitDefEqProofs (maxSteps := 1000000) (disch := first | omega | rfl) [m16b0, h29, e1, e2, t2, ht, f1, f2, wb, hw, c0, g1, g2, g3, g4, g3i, g4i, hni, hn, tn, t4, bldP, bldS, bldU, bldQ, purEls, purC, puris, puriC, puri, frzX, flatEls, flats, flat, allW, k_dis, KF, KS, getS, getO, gS, zipN, dropW, takeW, wds, stvs, sea, seaL, refs, refsL, refsEls, refsO, isPureEls, isPures, isPure, noExt, noExts, noExtEls, cellsL, ren, renL, renEls, keepO, keepS, keysO, refsS, refsOB, headC, setS, boxO, row, putW, putB, putB1, eNl, newOs, frz, renO, noExtO, zps, zp, two32, w64, -getElem?_pos, k_cnt, k_cnt0]
/-- The rows, and what is left: plain data if its row is frozen. -/
def outRf (fr : Bool) (l : List (List Int)) (c : List Int) : Option R := cond fr (some (.tup [.sl 0 0 0 l.length, .l true (byL c)], [row (rwL l) 1 true])) (outSf l c)
set_option maxHeartbeats 8000000 in
theorem end16 (N d : Nat) (g : SL → OB → Option R) (fr : Bool) (b c : List Int) (l : List (List Int)) (a m : Nat) (hb : b.length ≤ 990) (hc : c = (b.drop a).take m) (ha : a + m ≤ b.length) (hm : c.length = m) (hr : ∀ x ∈ c, 0 ≤ x ∧ x ≤ 255) (hl : longF c = -1) (hfa : fr = true ∨ a = 0) :
    m16b0 (sem tab N (d + 1)) N [] g [(4, .sl 103 0 0 l.length), (5, .sl 128 0 a m)] [(103, row (rwL l) 1 true), (128, { els := byL b, w := 1, pu := true, g := true, cap := none, ver := 0, fro := fr })] = outRf fr l c := by
  have h29 := R29t N d c (by omega) hr
  rw [hl] at h29
  have bl := byL_len b
  have cl := byL_len c
  have e1 : List.take m (List.drop a (byL b)) = byL c := by rw [hc, drop_by]; simp [byL, List.map_take]
  have ll := rwL_len l
  have tl : List.take l.length (rwL l) = rwL l := List.take_of_length_le (by omega)
  have f2 := flat_by b
  have wb := allW_by b
  have g3 : a + m ≤ (byL b).length := by omega
  have g3i : (a : Int) + m ≤ ((byL b).length : Int) := by omega
  unfold outRf outSf
  rw [hm]
  have e3 : fr = false → List.take m (byL b) = byL c := fun h => by
    rcases hfa with e | e
    · rw [h] at e; cases e
    · subst e; exact e1
  have e4 : fr = false → a = 0 := fun h => by
    rcases hfa with e | e
    · rw [h] at e; cases e
    · exact e
  have g5 : m ≤ (byL b).length := by omega
  clear hc hl hfa
  generalize byL c = v at *
  generalize byL b = y at *
  generalize rwL l = z at *
  simp only [row] at *
  cases fr
  · have e4 := e4 rfl
    have e3 := e3 rfl
    subst e4
    simp only [List.drop_zero] at e1
    simp -implicitDefEqProofs (maxSteps := 1000000) (disch := first | omega | rfl) [m16b0, h29, e1, e3, ll, tl, f2, wb, g3, g3i, g5, KF, KS, getS, getO, gS, zipN, dropW, takeW, wds, stvs, sea, seaL, refs, refsL, refsEls, refsO, isPureEls, isPures, isPure, noExt, noExts, noExtEls, cellsL, ren, renL, renEls, keepO, keepS, keysO, refsS, refsOB, headC, setS, boxO, row, putW, putB, putB1, eNl, newOs, frz, renO, noExtO, zps, zp, two32, w64, -getElem?_pos, k_cnt, k_cnt0]
  · simp -implicitDefEqProofs (maxSteps := 1000000) (disch := first | omega | rfl) [m16b0, h29, e1, ll, tl, f2, wb, g3, g3i, g5, KF, KS, getS, getO, gS, zipN, dropW, takeW, wds, stvs, sea, seaL, refs, refsL, refsEls, refsO, isPureEls, isPures, isPure, noExt, noExts, noExtEls, cellsL, ren, renL, renEls, keepO, keepS, keysO, refsS, refsOB, headC, setS, boxO, row, putW, putB, putB1, eNl, newOs, frz, renO, noExtO, zps, zp, two32, w64, -getElem?_pos, k_cnt, k_cnt0]
set_option maxHeartbeats 8000000 in
theorem st16 (Φ : Sem') (N : Nat) (b : List (List PV)) (hb : b.length ≤ 990) (h0 : 0 < b.length) (hw : allW 1 b = true) (hf : flatEls b = true) : m16 Φ (N + 1) [.l false b] [] = m16b0 Φ (N + 1) [] (loopC (m16b0 Φ (N + 1) []) N) [(4, .sl 103 0 0 0), (5, .sl 128 0 0 b.length)] [(103, row [] 1 true), (128, { els := b, w := 1, pu := true, g := true, cap := none, ver := 0, fro := false })] := by
  have g1 : ¬ (b.length ≤ 0) := by omega
  have g2 : b.length ≤ 4294967296 := by omega
  have g3 : b ≠ [] := fun e => by rw [e] at h0; simp at h0
  have t1 : List.take b.length b = b := List.take_length
  simp only [row] at *
  simp -implicitDefEqProofs (maxSteps := 1000000) (disch := first | omega | rfl) [m16, g1, g2, g3, t1, hw, hf, h0, KF, KS, getS, getO, gS, zipN, dropW, takeW, wds, stvs, sea, seaL, refs, refsL, refsEls, refsO, isPureEls, isPures, isPure, noExt, noExts, noExtEls, cellsL, ren, renL, renEls, keepO, keepS, keysO, refsS, refsOB, headC, setS, boxO, row, putW, putB, putB1, eNl, newOs, frz, renO, noExtO, zps, zp, two32, w64, -getElem?_pos, k_cnt, k_cnt0]
set_option maxHeartbeats 8000000 in
theorem st16n (Φ : Sem') (N : Nat) : m16 Φ (N + 1) [.l false []] [] = m16b0 Φ (N + 1) [] (loopC (m16b0 Φ (N + 1) []) N) [(4, .sl 103 0 0 0), (5, .sl 128 0 0 0)] [(103, row [] 1 true), (128, { els := [], w := 1, pu := true, g := true, cap := none, ver := 0, fro := false })] := by
  simp only [row] at *
  simp -implicitDefEqProofs (maxSteps := 1000000) (disch := first | omega | rfl) [m16, KF, KS, getS, getO, gS, zipN, dropW, takeW, wds, stvs, sea, seaL, refs, refsL, refsEls, refsO, isPureEls, isPures, isPure, noExt, noExts, noExtEls, cellsL, ren, renL, renEls, keepO, keepS, keysO, refsS, refsOB, headC, setS, boxO, row, putW, putB, putB1, eNl, newOs, frz, renO, noExtO, zps, zp, two32, w64, -getElem?_pos, k_cnt, k_cnt0]
theorem loop16 (N d M : Nat) (b : List Int) (hb : b.length ≤ 990) (hr : ∀ x ∈ b, 0 ≤ x ∧ x ≤ 255) : ∀ (n a : Nat) (fr : Bool) (l : List (List Int)), a ≤ b.length → b.length - a ≤ n → l.length ≤ 2000 - n →  n ≤ 990 → (fr = true ∨ a = 0) →
    loopC (m16b0 (sem tab N (d + 1)) N []) (M + 1 + n) [(4, .sl 103 0 0 l.length), (5, .sl 128 0 a (b.length - a))] [(103, row (rwL l) 1 true), (128, { els := byL b, w := 1, pu := true, g := true, cap := none, ver := 0, fro := fr })] = outRf (fr || !(splitN n (b.drop a)).1.isEmpty) (l ++ (splitN n (b.drop a)).1) (splitN n (b.drop a)).2 := by
  have hrd : ∀ a, ∀ x ∈ b.drop a, 0 ≤ x ∧ x ≤ 255 := fun a x hx => hr x (List.mem_of_mem_drop hx)
  have cc : ∀ a, b.drop a = (b.drop a).take (b.length - a) := fun a => (List.take_of_length_le (by rw [List.length_drop]; exact Nat.le_refl _)).symm
  intro n
  induction n with
  | zero =>
    intro a fr l ha hn hl _ hfa
    have e : b.drop a = [] := List.drop_of_length_le (by omega)
    rw [Nat.add_zero, k_loop, end16 N d _ fr b (b.drop a) l a (b.length - a) hb (cc a) (by omega) (List.length_drop) (hrd a) (by rw [e]; rfl) hfa]
    simp [splitN]
  | succ n ih =>
    intro a fr l ha hn hl hn2 hfa
    have hln : (b.drop a).length = b.length - a := List.length_drop
    rcases long_cases (b.drop a) (hrd a) with h | ⟨h1, h2⟩
    · rw [← Nat.add_assoc, k_loop, end16 N d _ fr b (b.drop a) l a (b.length - a) hb (cc a) (by omega) hln (hrd a) h hfa]
      simp [splitN, h]
    · have hne : ¬ longF (b.drop a) = -1 := by omega
      have ek : longF (b.drop a) = (((longF (b.drop a)).toNat : Nat) : Int) := by omega
      have hk2 : (longF (b.drop a)).toNat ≤ b.length - a := by omega
      have hk1 : 2 ≤ (longF (b.drop a)).toNat := by omega
      have hs := step16 N d (loopC (m16b0 (sem tab N (d + 1)) N []) (M + 1 + n)) fr b (b.drop a) (rwL l) a (longF (b.drop a)).toNat (b.length - a) l.length hb (cc a) (by omega) hln (hrd a) ek hk2 (rwL_len l) (by omega) (allW_rw l)
      rw [← Nat.add_assoc, k_loop]
      refine Eq.trans hs ?_
      rw [rwL_app]
      have hi := ih (a + (longF (b.drop a)).toNat) true (l ++ [(b.drop a).take (longF (b.drop a)).toNat]) (by omega) (by omega) (by simp; omega) (by omega) (.inl rfl)
      rw [List.length_append, List.length_singleton] at hi
      rw [show b.length - a - (longF (b.drop a)).toNat = b.length - (a + (longF (b.drop a)).toNat) by omega]
      refine Eq.trans hi ?_
      rw [splitN, if_neg hne, List.drop_drop]
      simp
/-- Frames that come one behind the other. -/
theorem R16 (M d : Nat) (b : List Int) (hb : b.length ≤ 990) (hr : ∀ x ∈ b, 0 ≤ x ∧ x ≤ 255) : sem tab (M + 1000) (d + 2) 16 [.l false (byL b)] [] = outRf (!(splitN b.length b).1.isEmpty) (splitN b.length b).1 (splitN b.length b).2 := by
  rw [sem_succ tab (M + 1000) (d + 1) 16 m16 rfl]
  have h := loop16 (M + 1000) d (M + 999 - b.length) b hb hr b.length 0 false [] (by omega) (by omega) (by simp) hb (.inr rfl)
  rw [show M + 999 - b.length + 1 + b.length = M + 999 + 1 by omega, k_loop] at h
  have bl := byL_len b
  by_cases h0 : b = []
  · subst h0
    exact Eq.trans (st16n _ (M + 999)) h
  · have hp : 0 < b.length := List.length_pos_iff.2 h0
    rw [st16 _ (M + 999) (byL b) (by omega) (by omega) (allW_by b) (flat_by b), bl]
    exact h
end
end Go.Proofs.Ytmhpkdcnhgmblaa
