/-
  The reading of code holds of the model's runs.
-/
import Derived.Test.YtcimkkcajkmfoaaDoorDrawC
import Derived.LoopNIn
import Derived.Scope
import Derived.ControlIn
set_option linter.all false
namespace Go.Proofs.YtcimkkcajkmfoaaDoor
open Go

def exitOf : Out → Exit
  | .norm => .normal
  | .exit id => .exit id
  | .goto l => .goto l
  | .ret => .ret
/-- Where code is left: what is behind it answers r. -/
def Post (C : Ctx) (n : Nat) (K : Kont) (r : R) : Exit → Act → World → Prop := fun e a w =>
  a.tmps.size = n ∧ a.defers = [] ∧ ∃ o sl ob γ, exitOf o = e ∧ K o sl ob = some r ∧ St C γ w a.tmps sl ob

theorem eqV_ok {x y : PV} (h : eqV x y = true) : x = y := by
  unfold eqV at h
  split at h <;> simp_all
theorem eqVs_ok : ∀ {x y : List PV}, eqVs x y = true → x = y
  | [], [], _ => rfl
  | x :: r, y :: s, h => by
    simp only [eqVs, Bool.and_eq_true] at h
    rw [eqV_ok h.1, eqVs_ok h.2]
  | [], _ :: _, h => by simp [eqVs] at h
  | _ :: _, [], h => by simp [eqVs] at h
theorem eqEls_ok : ∀ {x y : List (List PV)}, eqEls x y = true → x = y
  | [], [], _ => rfl
  | x :: r, y :: s, h => by
    simp only [eqEls, Bool.and_eq_true] at h
    rw [eqVs_ok h.1, eqEls_ok h.2]
  | [], _ :: _, h => by simp [eqEls] at h
  | _ :: _, [], h => by simp [eqEls] at h
theorem eqO_ok {x y : Obj'} (h : eqO x y = true) : x = y := by
  simp only [eqO, Bool.and_eq_true, beq_iff_eq, decide_eq_true_eq] at h
  obtain ⟨⟨⟨⟨⟨⟨h1, h2⟩, h3⟩, h4⟩, h5⟩, h6⟩, h7⟩ := h
  cases x; cases y
  simp only at h1 h2 h3 h4 h5 h6 h7
  rw [eqEls_ok h1, h2, h3, h4, h5, h6, h7]
theorem eqOs_ok : ∀ {x y : List Obj'}, eqOs x y = true → x = y
  | [], [], _ => rfl
  | x :: r, y :: s, h => by
    simp only [eqOs, Bool.and_eq_true] at h
    rw [eqO_ok h.1, eqOs_ok h.2]
  | [], _ :: _, h => by simp [eqOs] at h
  | _ :: _, [], h => by simp [eqOs] at h
theorem agree_ok {a b : Option R} {r : R} (h : agree a b = some r) : a = some r ∧ b = some r := by
  unfold agree at h
  split at h
  · rename_i x y
    split at h
    · rename_i hc
      injection h with h; subst h
      simp only [Bool.and_eq_true] at hc
      exact ⟨rfl, by rw [Prod.ext (eqV_ok hc.1) (eqOs_ok hc.2)]⟩
    · cases h
  · cases h
/-- A scope left: a jump to a label in it goes on there, at most so many times. -/
def jumpsP (P : Program) (c : Code) (Q : Exit → Act → World → Prop) : Nat → Exit → Act → World → Prop
  | m, .goto l, a, w => match findLabel c l with
    | none => Q (.goto l) a w
    | some rest => match m with
      | 0 => False
      | m + 1 => rest.wp P (jumpsP P c Q m) a w
  | _, e, a, w => Q e a w
theorem wp_scope_rounds {P : Program} {c : Code} {Q : Exit → Act → World → Prop} {a : Act} {w : World} (m : Nat) (h : c.wp P (jumpsP P c Q m) a w) : (Code.scope c).wp P Q a w := by
  intro b k cs
  have key : ∀ m e a₁ w₁ (M : Machine), jumpsP P c Q m e a₁ w₁ → Arrives P M b (.inScope c :: k) cs e a₁ w₁ → ∃ e a' w', Q e a' w' ∧ Arrives P M b k cs e a' w' := by
    intro m
    induction m with
    | zero =>
      intro e a₁ w₁ M hq harr
      cases e with
      | normal => exact ⟨.normal, a₁, w₁, hq, Steps.trans harr (.one step_inScope)⟩
      | exit id => exact ⟨.exit id, a₁, w₁, hq, fun k' hk => harr k' (by simp [exitTo, hk])⟩
      | goto l =>
        simp only [jumpsP] at hq
        split at hq
        · rename_i hf
          exact ⟨.goto l, a₁, w₁, hq, fun k' hk => harr k' (by simp [gotoIn, hf, hk])⟩
        · exact hq.elim
      | ret => exact ⟨_, a₁, w₁, hq, harr⟩
      | panic ch => exact ⟨_, a₁, w₁, hq, harr⟩
      | outgrown => exact ⟨_, a₁, w₁, hq, harr⟩
    | succ m ih =>
      intro e a₁ w₁ M hq harr
      cases e with
      | normal => exact ⟨.normal, a₁, w₁, hq, Steps.trans harr (.one step_inScope)⟩
      | exit id => exact ⟨.exit id, a₁, w₁, hq, fun k' hk => harr k' (by simp [exitTo, hk])⟩
      | goto l =>
        simp only [jumpsP] at hq
        split at hq
        · rename_i hf
          exact ⟨.goto l, a₁, w₁, hq, fun k' hk => harr k' (by simp [gotoIn, hf, hk])⟩
        · rename_i rest hf
          have hg : gotoIn l (.inScope c :: k) = some (.code rest :: .inScope c :: k) := by simp [gotoIn, hf]
          obtain ⟨e₂, a₂, w₂, hq₂, harr₂⟩ := hq b (.inScope c :: k) cs
          obtain ⟨e₃, a₃, w₃, hq₃, harr₃⟩ := ih e₂ a₂ w₂ _ hq₂ harr₂
          exact ⟨e₃, a₃, w₃, hq₃, .of_steps (harr _ hg) harr₃⟩
      | ret => exact ⟨_, a₁, w₁, hq, harr⟩
      | panic ch => exact ⟨_, a₁, w₁, hq, harr⟩
      | outgrown => exact ⟨_, a₁, w₁, hq, harr⟩
  obtain ⟨e, a₁, w₁, hq, harr⟩ := h b (.inScope c :: k) cs
  obtain ⟨e₂, a₂, w₂, hq₂, harr₂⟩ := key m e a₁ w₁ _ hq harr
  exact ⟨e₂, a₂, w₂, hq₂, .of_steps (.one step_scope) harr₂⟩
theorem hasLabel_find : ∀ (c : Code) (l : Nat), hasLabel l c = (findLabel c l).isSome
  | .seq a b, l => by
    simp only [hasLabel, findLabel, hasLabel_find a l, hasLabel_find b l]
    cases findLabel a l <;> rfl
  | .label l', l => by
    simp only [hasLabel, findLabel]
    split <;> simp_all
  | .skip, _ | .region .., _ | .cond .., _ | .block .., _ | .loop _, _ | .rangeFunc .., _ | .exit _, _ | .scope _, _ | .goto _, _ | .ret, _ | .refuse _, _ => rfl
theorem labsOf_has : ∀ {c : Code} {l : Nat}, hasLabel l c = true → l ∈ labsOf c
  | .seq a b, l, h => by
    simp only [hasLabel, Bool.or_eq_true] at h
    simp only [labsOf, List.mem_append]
    exact h.imp labsOf_has labsOf_has
  | .label l', l, h => by
    simp only [hasLabel, beq_iff_eq] at h
    simp [labsOf, h]
  | .skip, _, h | .region .., _, h | .cond .., _, h | .block .., _, h | .loop _, _, h | .rangeFunc .., _, h | .exit _, _, h | .scope _, _, h | .goto _, _, h | .ret, _, h | .refuse _, _, h => by simp [hasLabel] at h
theorem has_labsOf : ∀ {c : Code} {l : Nat}, l ∈ labsOf c → hasLabel l c = true
  | .seq a b, l, h => by
    simp only [labsOf, List.mem_append] at h
    simp only [hasLabel, Bool.or_eq_true]
    exact h.imp has_labsOf has_labsOf
  | .label l', l, h => by
    simp only [labsOf, List.mem_singleton] at h
    simp [hasLabel, h]
  | .skip, _, h | .region .., _, h | .cond .., _, h | .block .., _, h | .loop _, _, h | .rangeFunc .., _, h | .exit _, _, h | .scope _, _, h | .goto _, _, h | .ret, _, h | .refuse _, _, h => by simp [labsOf] at h
section
variable {P : Program} {E : Env} {C : Ctx}
theorem draw_ok (hE : E.fid = C.fid) (hG : E.glob = C.glob) (hro : ∀ f, E.ro f = false) (hrov : E.rov = false) {Φ : Sem'} (hΦ : Sound P C.fid C.glob Φ) {ops : Array Oper} {n nn id : Nat} {K : Kont} {sl : SL} {ob : OB} {a : Act} {γ : Gh} {w : World} {r : R}
    (hd : ∀ o ∈ ops.toList, ∀ t, o.dst = some t → t < n) (hord : ordOK P E ops = true) (H : denOps P E Φ ops (pairs P E ops) (K .norm) 0 [] ops.toList sl ob = some r) (hs : a.tmps.size = n) (hdf : a.defers = []) (S : St C γ w a.tmps sl ob) :
    (Code.region id ops true).wpIn Fence.wide nn P (Post C n K r) a w := by
  refine wpIn_region_draw fun t => ?_
  have S' : St C γ { w with drawn := w.drawn + 1 } a.tmps sl ob :=
    { S with chg := ⟨S.chg.os, S.chg.tape, S.chg.output, S.chg.size, S.chg.block⟩ }
  obtain ⟨os, y, y', g1, g2, g3, g4⟩ := draw_run hE hG hro hrov hΦ hd (x := (sl, ob)) ⟨a, γ, w, hs, S⟩ hord H (P.follows .mixedOrders) t
  exact run_wpIn hE hG hro hrov hΦ ops hd _ os a γ _ (sl, ob) y' g1 hs hdf S' g2 (fun a' γ' w' h3 h4 h5 => ⟨h3, h4, .norm, y.1, y.2, γ', rfl, g4, h5.eqX g3⟩)
theorem den_sound (hE : E.fid = C.fid) (hG : E.glob = C.glob) (hro : ∀ f, E.ro f = false) (hrov : E.rov = false) {Φ : Sem'} (hΦ : Sound P C.fid C.glob Φ) {N n M nn : Nat} (hM : n ≤ M) {r : R} :
    ∀ (c : Code), (∀ (K : Kont) (sl : SL) (ob : OB) (a : Act) (γ : Gh) (w : World), den P E Φ N n c none K sl ob = some r → a.tmps.size = M → a.defers = [] → St C γ w a.tmps sl ob → c.wpIn Fence.wide nn P (Post C M K r) a w) ∧
      ∀ (l : Nat) (rest : Code), findLabel c l = some rest → ∀ (K : Kont) (sl : SL) (ob : OB) (a : Act) (γ : Gh) (w : World), den P E Φ N n c (some l) K sl ob = some r → a.tmps.size = M → a.defers = [] → St C γ w a.tmps sl ob → rest.wpIn Fence.wide nn P (Post C M K r) a w := by
  intro c
  induction c with
  | skip =>
    refine ⟨?_, fun l rest hf => by simp [findLabel] at hf⟩
    intro K sl ob a γ w H hs hdf S
    simp only [den] at H
    exact wpIn_skip ⟨hs, hdf, .norm, sl, ob, γ, rfl, H, S⟩
  | region id ops draw =>
    refine ⟨?_, fun l rest hf => by simp [findLabel] at hf⟩
    intro K sl ob a γ w H hs hdf S
    simp only [den] at H
    split at H
    · rename_i hall
      have hd : ∀ o ∈ ops.toList, ∀ t, o.dst = some t → t < M := by
        intro o ho t ht
        rw [← Array.all_toList] at hall
        have := List.all_eq_true.1 hall o ho
        rw [ht] at this
        have h1 : t < n := by simpa using this
        exact Nat.lt_of_lt_of_le h1 hM
      cases draw with
      | false =>
        simp only at H
        obtain ⟨y, h1, h2⟩ := denOps_run H
        refine wpIn_region (run_wpIn hE hG hro hrov hΦ ops hd (List.range ops.size) ops.toList a γ w (sl, ob) y ?_ hs hdf S h1 (fun a' γ' w' h3 h4 h5 => ⟨h3, h4, .norm, y.1, y.2, γ', rfl, h2, h5⟩))
        apply List.ext_getElem?
        intro j
        rw [List.getElem?_map, List.getElem?_map]
        by_cases hj : j < ops.size
        · rw [List.getElem?_range hj]; simp [hj]
        · rw [List.getElem?_eq_none (by simp; omega), List.getElem?_eq_none (by simp; omega)]; rfl
      | true =>
        simp only at H
        split at H
        · rename_i ho
          exact draw_ok hE hG hro hrov hΦ hd ho H hs hdf S
        · cases H
    · cases H
  | seq x y ihx ihy =>
    have both : ∀ (K : Kont) (x' : Code) (a : Act) (w : World), x'.wpIn Fence.wide nn P (Post C M (thenK (den P E Φ N n y none K) K) r) a w → (Code.seq x' y).wpIn Fence.wide nn P (Post C M K r) a w := by
      intro K x' a w h
      refine wpIn_seq (wpIn_mono h ?_)
      rintro e a' w' ⟨h1, h2, o, sl', ob', γ', he, hK, S'⟩
      cases o with
      | norm => subst he; exact ihy.1 K sl' ob' a' γ' w' hK h1 h2 S'
      | exit id => subst he; exact ⟨h1, h2, .exit id, sl', ob', γ', rfl, hK, S'⟩
      | goto l => subst he; exact ⟨h1, h2, .goto l, sl', ob', γ', rfl, hK, S'⟩
      | ret => subst he; exact ⟨h1, h2, .ret, sl', ob', γ', rfl, hK, S'⟩
    constructor
    · intro K sl ob a γ w H hs hdf S
      simp only [den] at H
      exact both K x a w (ihx.1 _ sl ob a γ w H hs hdf S)
    · intro l rest hf K sl ob a γ w H hs hdf S
      simp only [den, hasLabel_find] at H
      simp only [findLabel] at hf
      cases hx : findLabel x l with
      | some rx =>
        rw [hx] at hf H
        injection hf with hf; subst hf
        exact both K rx a w (ihx.2 l rx hx _ sl ob a γ w (by simpa using H) hs hdf S)
      | none =>
        rw [hx] at hf H
        exact ihy.2 l rest hf K sl ob a γ w (by simpa using H) hs hdf S
  | cond c x y ihx ihy =>
    refine ⟨?_, fun l rest hf => by simp [findLabel] at hf⟩
    intro K sl ob a γ w H hs hdf S
    simp only [den] at H
    unfold br at H
    split at H
    · rename_i b hc
      have hv := ev_ok hE hG S c
      rw [hc, RV_b] at hv
      cases b with
      | true => exact wpIn_cond_true hv (ihx.1 K sl ob a γ w (by simpa using H) hs hdf S)
      | false => exact wpIn_cond_false hv (ihy.1 K sl ob a γ w (by simpa using H) hs hdf S)
    · rename_i hc
      obtain ⟨h1, h2⟩ := agree_ok H
      have hv := ev_ok hE hG S c
      rw [hc, RV_ub] at hv
      obtain ⟨b, hv⟩ := hv
      cases b with
      | true => exact wpIn_cond_true hv (ihx.1 K sl ob a γ w h1 hs hdf S)
      | false => exact wpIn_cond_false hv (ihy.1 K sl ob a γ w h2 hs hdf S)
    · cases H
  | block id c ih =>
    refine ⟨?_, fun l rest hf => by simp [findLabel] at hf⟩
    intro K sl ob a γ w H hs hdf S
    simp only [den] at H
    refine wpIn_block (wpIn_mono (ih.1 _ sl ob a γ w H hs hdf S) ?_)
    rintro e a' w' ⟨h1, h2, o, sl', ob', γ', he, hK, S'⟩
    subst he
    cases o with
    | norm => exact ⟨h1, h2, .norm, sl', ob', γ', rfl, hK, S'⟩
    | exit id' =>
      simp only [inBlk] at hK
      simp only [exitOf, Exit.inBlock]
      split at hK
      · rename_i e
        rw [if_pos e]; exact ⟨h1, h2, .norm, sl', ob', γ', rfl, hK, S'⟩
      · rename_i e
        rw [if_neg e]; exact ⟨h1, h2, .exit id', sl', ob', γ', rfl, hK, S'⟩
    | goto l => exact ⟨h1, h2, .goto l, sl', ob', γ', rfl, hK, S'⟩
    | ret => exact ⟨h1, h2, .ret, sl', ob', γ', rfl, hK, S'⟩
  | loop c ih =>
    refine ⟨?_, fun l rest hf => by simp [findLabel] at hf⟩
    intro K sl ob a γ w H hs hdf S
    simp only [den] at H
    split at H
    · cases H
    · rename_i hd hann
      unfold normK at H
      obtain ⟨x, hx, H⟩ := bnd_some H
      obtain ⟨γ1, S1⟩ := head_ok' S hx
      have key : ∀ m (x : SL × OB) (a : Act) (γ : Gh) (w : World), loopC (fun g => den P E Φ N n c none (thenK (fun sl ob => bnd (head hd.nc hd.ts hd.os sl ob) fun x => g x.1 x.2) K)) m x.1 x.2 = some r → a.tmps.size = M → a.defers = [] → St C γ w a.tmps x.1 x.2 →
          Code.roundsIn Fence.wide nn P c (Post C M K r) m a w := by
        intro m
        induction m with
        | zero => intro x a γ w H; simp [loopC] at H
        | succ m ihm =>
          intro x a γ w H hs hdf S
          simp only [loopC] at H
          rw [roundsIn_succ]
          refine wpIn_mono (ih.1 _ x.1 x.2 a γ w H hs hdf S) ?_
          rintro e a' w' ⟨h1, h2, o, sl', ob', γ', he, hK, S'⟩
          subst he
          cases o with
          | norm =>
            simp only [thenK] at hK
            obtain ⟨y, hy, hK⟩ := bnd_some hK
            obtain ⟨γ2, S2⟩ := head_ok' S' hy
            exact ihm y a' γ2 w' hK h1 h2 S2
          | exit id => exact ⟨h1, h2, .exit id, sl', ob', γ', rfl, hK, S'⟩
          | goto l => exact ⟨h1, h2, .goto l, sl', ob', γ', rfl, hK, S'⟩
          | ret => exact ⟨h1, h2, .ret, sl', ob', γ', rfl, hK, S'⟩
      exact wpIn_loop_rounds N (key N x a γ1 w H hs hdf S1)
  | rangeFunc f ps x y _ _ => exact ⟨fun K sl ob a γ w H => by simp [den] at H, fun l rest hf => by simp [findLabel] at hf⟩
  | exit id =>
    refine ⟨?_, fun l rest hf => by simp [findLabel] at hf⟩
    intro K sl ob a γ w H hs hdf S
    simp only [den] at H
    exact wpIn_exit ⟨hs, hdf, .exit id, sl, ob, γ, rfl, H, S⟩
  | scope c ih =>
    refine ⟨?_, fun l rest hf => by simp [findLabel] at hf⟩
    intro K sl ob a γ w H hs hdf S
    simp only [den] at H
    split at H
    case h_2 => cases H
    rename_i l0 hl0
    have hone : ∀ l, findLabel c l ≠ none → l = l0 := by
      intro l hl
      have : hasLabel l c = true := by rw [hasLabel_find]; cases hf : findLabel c l <;> simp_all
      have := labsOf_has this
      rw [hl0] at this
      simpa using this
    obtain ⟨rest, hrest⟩ : ∃ rest, findLabel c l0 = some rest := by
      have : hasLabel l0 c = true := has_labsOf (by rw [hl0]; simp)
      rw [hasLabel_find] at this
      exact Option.isSome_iff_exists.1 this
    have conv : ∀ m e a w, Post C M (jmp E l0 (loopC (fun g => den P E Φ N n c (some l0) (jmp E l0 g K)) m) K) r e a w → jumpsP P c (Post C M K r) m e a w := by
      intro m
      induction m with
      | zero =>
        rintro e a' w' ⟨h1, h2, o, sl', ob', γ', he, hK, S'⟩
        subst he
        cases o with
        | norm => exact ⟨h1, h2, .norm, sl', ob', γ', rfl, hK, S'⟩
        | exit id => exact ⟨h1, h2, .exit id, sl', ob', γ', rfl, hK, S'⟩
        | ret => exact ⟨h1, h2, .ret, sl', ob', γ', rfl, hK, S'⟩
        | goto l =>
          simp only [jmp] at hK
          simp only [exitOf, jumpsP]
          split at hK
          · split at hK
            · unfold normK at hK
              obtain ⟨x, hx, hK⟩ := bnd_some hK
              simp [loopC] at hK
            · cases hK
          · rename_i hne
            cases hf : findLabel c l with
            | none => exact ⟨h1, h2, .goto l, sl', ob', γ', rfl, hK, S'⟩
            | some rest' => exact absurd (hone l (by rw [hf]; simp)) hne
      | succ m ihm =>
        rintro e a' w' ⟨h1, h2, o, sl', ob', γ', he, hK, S'⟩
        subst he
        cases o with
        | norm => exact ⟨h1, h2, .norm, sl', ob', γ', rfl, hK, S'⟩
        | exit id => exact ⟨h1, h2, .exit id, sl', ob', γ', rfl, hK, S'⟩
        | ret => exact ⟨h1, h2, .ret, sl', ob', γ', rfl, hK, S'⟩
        | goto l =>
          simp only [jmp] at hK
          simp only [exitOf, jumpsP]
          split at hK
          · rename_i e
            subst e
            rw [hrest]
            split at hK
            · rename_i hd _
              unfold normK at hK
              obtain ⟨x, hx, hK⟩ := bnd_some hK
              obtain ⟨γ2, S2⟩ := head_ok' S' hx
              simp only [loopC] at hK
              exact wpIn_wide.1 (wpIn_mono (ih.2 l rest hrest _ x.1 x.2 a' γ2 w' hK h1 h2 S2) (n := nn) (ihm))
            · cases hK
          · rename_i hne
            cases hf : findLabel c l with
            | none => exact ⟨h1, h2, .goto l, sl', ob', γ', rfl, hK, S'⟩
            | some rest' => exact absurd (hone l (by rw [hf]; simp)) hne
    exact wpIn_wide.2 (wp_scope_rounds N (wpIn_wide.1 (wpIn_mono (ih.1 _ sl ob a γ w H hs hdf S) (n := nn) (conv N))))
  | label l' =>
    constructor
    · intro K sl ob a γ w H hs hdf S
      simp only [den] at H
      exact wpIn_label ⟨hs, hdf, .norm, sl, ob, γ, rfl, H, S⟩
    · intro l rest hf K sl ob a γ w H hs hdf S
      simp only [den] at H
      simp only [findLabel] at hf
      split at hf
      · injection hf with hf; subst hf
        split at H
        · exact wpIn_skip ⟨hs, hdf, .norm, sl, ob, γ, rfl, H, S⟩
        · cases H
      · cases hf
  | goto l =>
    refine ⟨?_, fun l rest hf => by simp [findLabel] at hf⟩
    intro K sl ob a γ w H hs hdf S
    simp only [den] at H
    exact wpIn_goto ⟨hs, hdf, .goto l, sl, ob, γ, rfl, H, S⟩
  | ret =>
    refine ⟨?_, fun l rest hf => by simp [findLabel] at hf⟩
    intro K sl ob a γ w H hs hdf S
    simp only [den] at H
    exact wpIn_ret ⟨hs, hdf, .ret, sl, ob, γ, rfl, H, S⟩
  | refuse s => exact ⟨fun K sl ob a γ w H => by simp [den] at H, fun l rest hf => by simp [findLabel] at hf⟩
end
end Go.Proofs.YtcimkkcajkmfoaaDoor
