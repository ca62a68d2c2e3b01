/-
  The reading of code holds of the model's runs: all code.
-/
import Derived.Test.YtcimkkcajkmfoaaDoorDenS
set_option linter.all false
namespace Go.Proofs.YtcimkkcajkmfoaaDoor
open Go

section
variable {P : Program} {E : Env} {C : Ctx}
/-- Where a scope is left, in a wide fence. -/
theorem inv_eqs {T : KeepT} {r : R} {γ : Gh} {w : World} {a : Act} {sl : SL} {ob : OB} (hE : E.fid = C.fid) (hG : E.glob = C.glob) (I : Inv C T r γ w a sl ob) (c : Operand) : RV C.fid γ w.heap (a.eval c) (ev E sl c) := by
  obtain ⟨C', hf, hg, _, S⟩ := I
  rw [← hf]
  exact ev_ok (by rw [hE, hf]) (by rw [hG, hg]) S c
/-- Both ways at a loop's bool. -/
theorem brY_ok (hE : E.fid = C.fid) (hG : E.glob = C.glob) {T : KeepT} (hGo : GoOK C T) {A B : SL → OB → Option R} {sl : SL} {ob : OB} {r : R} {γ : Gh} {w : World} {a : Act} {c : Operand} (H : brY (ev E sl c) A B sl ob = some r) (I : Inv C T r γ w a sl ob) :
    (a.eval c = .bool true ∧ ∃ sl' r', A sl' ob = some r' ∧ Inv C T r' γ w a sl' ob) ∨ (a.eval c = .bool false ∧ ∃ sl' r', B sl' ob = some r' ∧ Inv C T r' γ w a sl' ob) := by
  have hv := inv_eqs hE hG I c
  obtain ⟨C', hf, hg, hTT, S⟩ := I
  have look : ∀ n, getS sl tslot = .y 1 n 1 → (∃ x', getO ob 1 = some x' ∧ x'.ver = n) → ∃ i, γ.mu 1 = some i ∧ i.ver = n := by
    rintro n _ ⟨x', hx, hv⟩
    obtain ⟨i, h1, h2, _⟩ := S.obj 1 x' hx
    exact ⟨i, h1, by rw [← h2, hv]⟩
  have goes : ∀ n i, getS sl tslot = .y 1 n 1 → γ.mu 1 = some i → i.ver = n → i.w = 0 → Inv C T r γ w a ((tslot, .y 1 n 0) :: sl) ob := by
    intro n i h1 h2 h3 h4
    refine ⟨C', hf, hg, hGo.go _ _ _ _ _ _ _ _ n i S hTT h1 h2 h3 h4, S.tsl fun x => ?_⟩
    simp only [RV, RAt]
    exact ⟨i, h2, by omega, fun _ => h4⟩
  have stops : ∀ n i r', getS sl tslot = .y 1 n 1 → γ.mu 1 = some i → i.ver = n → i.w ≠ 0 → Inv C T r' γ w a sl ob := fun n i r' h1 h2 h3 h4 => ⟨C', hf, hg, hGo.stop _ _ _ r' _ _ _ _ _ n i S hTT h1 h2 h3 h4, S⟩
  unfold brY at H
  split at H
  · rename_i n hc
    obtain ⟨h1, h2, h3, r', h4⟩ := brGo_some H
    obtain ⟨i, hi, hin⟩ := look n h1 h2
    rw [hc] at hv
    simp only [RV, RAt] at hv
    obtain ⟨i', hi', _, x, hx, hw⟩ := hv
    rw [hi] at hi'
    injection hi' with hi'
    subst hi'
    have hx' : a.eval c = .bool x := by simpa using hx
    have hw' := hw hin.symm
    by_cases h0 : i.w = 0
    · refine .inl ⟨by rw [hx', hw', h0]; rfl, _, _, h3, goes n i h1 hi hin h0⟩
    · refine .inr ⟨by rw [hx', hw']; simpa using h0, _, _, h4, stops n i r' h1 hi hin h0⟩
  · rename_i n hc
    obtain ⟨h1, h2, h3, r', h4⟩ := brGo_some H
    obtain ⟨i, hi, hin⟩ := look n h1 h2
    rw [hc] at hv
    simp only [RV, RAt] at hv
    obtain ⟨i', hi', _, x, hx, hw⟩ := hv
    rw [hi] at hi'
    injection hi' with hi'
    subst hi'
    have hx' : a.eval c = .bool x := by simpa using hx
    have hw' := hw hin.symm
    by_cases h0 : i.w = 0
    · refine .inr ⟨by rw [hx', hw', h0]; rfl, _, _, h3, goes n i h1 hi hin h0⟩
    · refine .inl ⟨by rw [hx', hw']; simpa using h0, _, _, h4, stops n i r' h1 hi hin h0⟩
  · unfold br at H
    split at H
    · rename_i b hc
      rw [hc, RV_b] at hv
      cases b with
      | true => exact .inl ⟨hv, sl, r, by simpa using H, C', hf, hg, hTT, S⟩
      | false => exact .inr ⟨hv, sl, r, by simpa using H, C', hf, hg, hTT, S⟩
    · rename_i hc
      obtain ⟨h1, h2⟩ := agree_ok H
      rw [hc, RV_ub] at hv
      obtain ⟨b, hv⟩ := hv
      cases b with
      | true => exact .inl ⟨hv, sl, r, h1, C', hf, hg, hTT, S⟩
      | false => exact .inr ⟨hv, sl, r, h2, C', hf, hg, hTT, S⟩
    · cases H
theorem br_ok (hE : E.fid = C.fid) (hG : E.glob = C.glob) {T : KeepT} {x y : Option R} {sl : SL} {ob : OB} {r : R} {γ : Gh} {w : World} {a : Act} {c : Operand} (H : br (ev E sl c) x y = some r) (I : Inv C T r γ w a sl ob) :
    (a.eval c = .bool true ∧ x = some r) ∨ (a.eval c = .bool false ∧ y = some r) := by
  have hv := inv_eqs hE hG I c
  unfold br at H
  split at H
  · rename_i b hc
    rw [hc, RV_b] at hv
    cases b with
    | true => exact .inl ⟨hv, by simpa using H⟩
    | false => exact .inr ⟨hv, by simpa using H⟩
  · rename_i hc
    obtain ⟨h1, h2⟩ := agree_ok H
    rw [hc, RV_ub] at hv
    obtain ⟨b, hv⟩ := hv
    cases b with
    | true => exact .inl ⟨hv, h1⟩
    | false => exact .inr ⟨hv, h2⟩
  · cases H
theorem den_sound (hE : E.fid = C.fid) (hG : E.glob = C.glob) (hro : ∀ f, E.ro f = false) (hrov : E.rov = false) {Φ : Sem'} (hΦ : Sound P C.fid C.glob Φ) {N n M : Nat} (hM : n ≤ M) (hts : E.yp = true → n ≤ tslot)
    (hRg : ∀ f ps as c, DenOK P E C Φ N n M as → DenOK P E C Φ N n M c → DenOK P E C Φ N n M (.rangeFunc f ps as c)) : ∀ (c : Code), DenOK P E C Φ N n M c := by
  intro c
  induction c with
  | skip =>
    intro nn F hF T hT hY hH
    refine ⟨?_, fun l rest hf => by simp [findLabel] at hf⟩
    intro K sl ob a γ w r H hs I
    simp only [den] at H
    exact wpIn_skip ⟨hs, .norm, sl, ob, γ, r, rfl, H, I⟩
  | region id ops draw =>
    intro nn F hF T hT hY hH
    refine ⟨?_, fun l rest hf => by simp [findLabel] at hf⟩
    intro K sl ob a γ w r H hs I
    simp only [den] at H
    split at H
    · rename_i hall
      have hd : ∀ o ∈ ops.toList, ∀ t, o.dst = some t → t < M ∧ (E.yp = true → t < tslot) := by
        intro o ho t ht
        rw [← Array.all_toList] at hall
        have := List.all_eq_true.1 hall o ho
        rw [ht] at this
        have h1 : t < n := by simpa using this
        exact ⟨Nat.lt_of_lt_of_le h1 hM, fun hy => Nat.lt_of_lt_of_le h1 (hts hy)⟩
      have hrange : (List.range ops.size).map (ops[·]?) = ops.toList.map some := by
        apply List.ext_getElem?
        intro j
        rw [List.getElem?_map, List.getElem?_map]
        by_cases hj : j < ops.size
        · rw [List.getElem?_range hj]; simp [hj]
        · rw [List.getElem?_eq_none (by simp; omega), List.getElem?_eq_none (by simp; omega)]; rfl
      cases draw with
      | false =>
        simp only at H
        split at H
        · rename_i hc
          exact wpIn_region (runY hF hT (hY hc.1).2 hE hG hro hrov hΦ hc.1 ops hd (fun a' γ' w' sl' ob' r' h1 h2 h3 => ⟨h2, .norm, sl', ob', γ', r', rfl, h1, h3⟩) _ _ a γ w sl ob r hrange H hs I)
        · obtain ⟨y, h1, h2⟩ := denOps_run H
          exact wpIn_region (run_wpInF hF hT hE hG hro hrov hΦ ops hd (List.range ops.size) ops.toList a γ w (sl, ob) y hrange hs I h1 (fun a' γ' w' h3 h4 => ⟨h3, .norm, y.1, y.2, γ', r, rfl, h2, h4⟩))
      | true =>
        simp only at H
        split at H
        · rename_i ho
          exact draw_ok hE hG hro hrov hΦ hF hT hd ho H hs I
        · cases H
    · cases H
  | seq x y ihx ihy =>
    intro nn F hF T hT hY hH
    have hx := ihx nn F hF T hT hY (fun h => hH (by simp [noHead, h]))
    have hy := ihy nn F hF T hT hY (fun h => hH (by simp [noHead, h]))
    have both : ∀ (K : Kont) (x' : Code) (a : Act) (w : World), x'.wpIn F nn P (Post C T M (thenK (den P E Φ N n y none K) K)) a w → (Code.seq x' y).wpIn F nn P (Post C T M K) a w := by
      intro K x' a w h
      refine wpIn_seq (wpIn_mono h ?_)
      rintro e a' w' ⟨h1, o, sl', ob', γ', r', he, hK, I'⟩
      cases o with
      | norm => subst he; exact hy.1 K sl' ob' a' γ' w' r' hK h1 I'
      | exit id => subst he; exact ⟨h1, .exit id, sl', ob', γ', r', rfl, hK, I'⟩
      | goto l => subst he; exact ⟨h1, .goto l, sl', ob', γ', r', rfl, hK, I'⟩
      | ret => subst he; exact ⟨h1, .ret, sl', ob', γ', r', rfl, hK, I'⟩
    constructor
    · intro K sl ob a γ w r H hs I
      simp only [den] at H
      exact both K x a w (hx.1 _ sl ob a γ w r H hs I)
    · intro l rest hf K sl ob a γ w r H hs I
      simp only [den, hasLabel_find] at H
      simp only [findLabel] at hf
      cases hx' : findLabel x l with
      | some rx =>
        rw [hx'] at hf H
        injection hf with hf; subst hf
        exact both K rx a w (hx.2 l rx hx' _ sl ob a γ w r (by simpa using H) hs I)
      | none =>
        rw [hx'] at hf H
        exact hy.2 l rest hf K sl ob a γ w r (by simpa using H) hs I
  | cond c x y ihx ihy =>
    intro nn F hF T hT hY hH
    have hx := ihx nn F hF T hT hY (fun h => hH (by simp [noHead, h]))
    have hy := ihy nn F hF T hT hY (fun h => hH (by simp [noHead, h]))
    refine ⟨?_, fun l rest hf => by simp [findLabel] at hf⟩
    intro K sl ob a γ w r H hs I
    simp only [den] at H
    split at H
    · rename_i hyp
      rcases brY_ok hE hG (hY hyp).1 H I with ⟨h1, sl', r', h2, h3⟩ | ⟨h1, sl', r', h2, h3⟩
      · exact wpIn_cond_true h1 (hx.1 K sl' ob a γ w r' h2 hs h3)
      · exact wpIn_cond_false h1 (hy.1 K sl' ob a γ w r' h2 hs h3)
    · rcases br_ok hE hG H I with ⟨h1, h2⟩ | ⟨h1, h2⟩
      · exact wpIn_cond_true h1 (hx.1 K sl ob a γ w r h2 hs I)
      · exact wpIn_cond_false h1 (hy.1 K sl ob a γ w r h2 hs I)
  | block id c ih =>
    intro nn F hF T hT hY hH
    have hc := ih nn F hF T hT hY (fun h => hH (by simpa [noHead] using h))
    refine ⟨?_, fun l rest hf => by simp [findLabel] at hf⟩
    intro K sl ob a γ w r H hs I
    simp only [den] at H
    refine wpIn_block (wpIn_mono (hc.1 _ sl ob a γ w r H hs I) ?_)
    rintro e a' w' ⟨h1, o, sl', ob', γ', r', he, hK, I'⟩
    subst he
    cases o with
    | norm => exact ⟨h1, .norm, sl', ob', γ', r', rfl, hK, I'⟩
    | exit id' =>
      simp only [inBlk] at hK
      simp only [exitOf, Exit.inBlock]
      split at hK
      · rename_i e
        rw [if_pos e]; exact ⟨h1, .norm, sl', ob', γ', r', rfl, hK, I'⟩
      · rename_i e
        rw [if_neg e]; exact ⟨h1, .exit id', sl', ob', γ', r', rfl, hK, I'⟩
    | goto l => exact ⟨h1, .goto l, sl', ob', γ', r', rfl, hK, I'⟩
    | ret => exact ⟨h1, .ret, sl', ob', γ', r', rfl, hK, I'⟩
  | loop c ih =>
    intro nn F hF T hT hY hH
    obtain ⟨rfl, hHd, hRt⟩ := hH rfl
    have hc := ih nn Fence.wide hF T hT hY (fun _ => ⟨rfl, hHd, hRt⟩)
    refine ⟨?_, fun l rest hf => by simp [findLabel] at hf⟩
    intro K sl ob a γ w r H hs I
    simp only [den] at H
    split at H
    · cases H
    · rename_i hd hann
      unfold normK at H
      obtain ⟨x, hx, H⟩ := bnd_some H
      obtain ⟨γ1, I1⟩ := inv_head hT hHd I hx
      have key : ∀ m (x : SL × OB) (a : Act) (γ : Gh) (w : World) (r : R), loopC (fun g => den P E Φ N n c none (thenK (fun sl ob => bnd (headH hd sl ob) fun x => g x.1 x.2) K)) m x.1 x.2 = some r → a.tmps.size = M → Inv C T r γ w a x.1 x.2 →
          Code.roundsIn Fence.wide nn P c (Post C T M K) m a w := by
        intro m
        induction m with
        | zero => intro x a γ w r H; simp [loopC] at H
        | succ m ihm =>
          intro x a γ w r H hs I
          simp only [loopC] at H
          rw [roundsIn_succ]
          refine wpIn_mono (hc.1 _ x.1 x.2 a γ w r H hs I) ?_
          rintro e a' w' ⟨h1, o, sl', ob', γ', r', he, hK, I'⟩
          subst he
          cases o with
          | norm =>
            simp only [thenK] at hK
            obtain ⟨y, hy, hK⟩ := bnd_some hK
            obtain ⟨γ2, I2⟩ := inv_head hT hHd I' hy
            exact ihm y a' γ2 w' r' hK h1 I2
          | exit id => exact ⟨h1, .exit id, sl', ob', γ', r', rfl, hK, I'⟩
          | goto l => exact ⟨h1, .goto l, sl', ob', γ', r', rfl, hK, I'⟩
          | ret => exact ⟨h1, .ret, sl', ob', γ', r', rfl, hK, I'⟩
      exact wpIn_loop_rounds N (key N x a γ1 w r H hs I1)
  | rangeFunc f ps x y ihx ihy => exact hRg f ps x y ihx ihy
  | exit id =>
    intro nn F hF T hT hY hH
    refine ⟨?_, fun l rest hf => by simp [findLabel] at hf⟩
    intro K sl ob a γ w r H hs I
    simp only [den] at H
    exact wpIn_exit ⟨hs, .exit id, sl, ob, γ, r, rfl, H, I⟩
  | scope c ih =>
    intro nn F hF T hT hY hH
    obtain ⟨rfl, hHd, hRt⟩ := hH rfl
    have hc := ih nn Fence.wide hF T hT hY (fun _ => ⟨rfl, hHd, hRt⟩)
    refine ⟨?_, fun l rest hf => by simp [findLabel] at hf⟩
    intro K sl ob a γ w r H hs I
    simp only [den] at H
    split at H
    case h_2 => cases H
    rename_i l0 hl0
    have hone : ∀ l, findLabel c l ≠ none → l = l0 := by
      intro l hl
      have : hasLabel l c = true := by rw [hasLabel_find]; cases hf : findLabel c l <;> simp_all
      have := labsOf_has this
      rw [hl0] at this
      simpa using this
    obtain ⟨rest, hrest⟩ : ∃ rest, findLabel c l0 = some rest := by
      have : hasLabel l0 c = true := has_labsOf (by rw [hl0]; simp)
      rw [hasLabel_find] at this
      exact Option.isSome_iff_exists.1 this
    have conv : ∀ m e a w, Post C T M (jmp E l0 (loopC (fun g => den P E Φ N n c (some l0) (jmp E l0 g K)) m) K) e a w → jumpsP P c (Post C T M K) m e a w := by
      intro m
      induction m with
      | zero =>
        rintro e a' w' ⟨h1, o, sl', ob', γ', r', he, hK, I'⟩
        subst he
        cases o with
        | norm => exact ⟨h1, .norm, sl', ob', γ', r', rfl, hK, I'⟩
        | exit id => exact ⟨h1, .exit id, sl', ob', γ', r', rfl, hK, I'⟩
        | ret => exact ⟨h1, .ret, sl', ob', γ', r', rfl, hK, I'⟩
        | goto l =>
          simp only [jmp] at hK
          simp only [exitOf, jumpsP]
          split at hK
          · split at hK
            · unfold normK at hK
              obtain ⟨x, hx, hK⟩ := bnd_some hK
              simp [loopC] at hK
            · cases hK
          · rename_i hne
            cases hf : findLabel c l with
            | none => exact ⟨h1, .goto l, sl', ob', γ', r', rfl, hK, I'⟩
            | some rest' => exact absurd (hone l (by rw [hf]; simp)) hne
      | succ m ihm =>
        rintro e a' w' ⟨h1, o, sl', ob', γ', r', he, hK, I'⟩
        subst he
        cases o with
        | norm => exact ⟨h1, .norm, sl', ob', γ', r', rfl, hK, I'⟩
        | exit id => exact ⟨h1, .exit id, sl', ob', γ', r', rfl, hK, I'⟩
        | ret => exact ⟨h1, .ret, sl', ob', γ', r', rfl, hK, I'⟩
        | goto l =>
          simp only [jmp] at hK
          simp only [exitOf, jumpsP]
          split at hK
          · rename_i e
            subst e
            rw [hrest]
            split at hK
            · rename_i hd _
              unfold normK at hK
              obtain ⟨x, hx, hK⟩ := bnd_some hK
              obtain ⟨γ2, I2⟩ := inv_head hT hHd I' hx
              simp only [loopC] at hK
              exact wpIn_wide.1 (wpIn_mono (hc.2 l rest hrest _ x.1 x.2 a' γ2 w' r' hK h1 I2) (n := nn) (ihm))
            · cases hK
          · rename_i hne
            cases hf : findLabel c l with
            | none => exact ⟨h1, .goto l, sl', ob', γ', r', rfl, hK, I'⟩
            | some rest' => exact absurd (hone l (by rw [hf]; simp)) hne
    exact wpIn_wide.2 (wp_scope_rounds N (wpIn_wide.1 (wpIn_mono (hc.1 _ sl ob a γ w r H hs I) (n := nn) (conv N))))
  | label l' =>
    intro nn F hF T hT hY hH
    constructor
    · intro K sl ob a γ w r H hs I
      simp only [den] at H
      exact wpIn_label ⟨hs, .norm, sl, ob, γ, r, rfl, H, I⟩
    · intro l rest hf K sl ob a γ w r H hs I
      simp only [den] at H
      simp only [findLabel] at hf
      split at hf
      · injection hf with hf; subst hf
        split at H
        · exact wpIn_skip ⟨hs, .norm, sl, ob, γ, r, rfl, H, I⟩
        · cases H
      · cases hf
  | goto l =>
    intro nn F hF T hT hY hH
    refine ⟨?_, fun l rest hf => by simp [findLabel] at hf⟩
    intro K sl ob a γ w r H hs I
    simp only [den] at H
    exact wpIn_goto ⟨hs, .goto l, sl, ob, γ, r, rfl, H, I⟩
  | ret =>
    intro nn F hF T hT hY hH
    refine ⟨?_, fun l rest hf => by simp [findLabel] at hf⟩
    intro K sl ob a γ w r H hs I
    simp only [den] at H
    exact wpIn_ret ⟨hs, .ret, sl, ob, γ, r, rfl, H, I⟩
  | refuse s =>
    intro nn F hF T hT hY hH
    exact ⟨fun K sl ob a γ w r H => by simp [den] at H, fun l rest hf => by simp [findLabel] at hf⟩
end
end Go.Proofs.YtcimkkcajkmfoaaDoor
