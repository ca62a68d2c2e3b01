/-
  The reading of code holds of the model's runs.
-/
import Derived.Test.YtcimkkcajkmfoaaDoorRunT
import Derived.LoopNIn
import Derived.Scope
import Derived.ControlIn
set_option linter.all false
namespace Go.Proofs.YtcimkkcajkmfoaaDoor
open Go

theorem eqV_ok {x y : PV} (h : eqV x y = true) : x = y := by
  unfold eqV at h
  split at h <;> simp_all
theorem eqVs_ok : ∀ {x y : List PV}, eqVs x y = true → x = y
  | [], [], _ => rfl
  | x :: r, y :: s, h => by
    simp only [eqVs, Bool.and_eq_true] at h
    rw [eqV_ok h.1, eqVs_ok h.2]
  | [], _ :: _, h => by simp [eqVs] at h
  | _ :: _, [], h => by simp [eqVs] at h
theorem eqEls_ok : ∀ {x y : List (List PV)}, eqEls x y = true → x = y
  | [], [], _ => rfl
  | x :: r, y :: s, h => by
    simp only [eqEls, Bool.and_eq_true] at h
    rw [eqVs_ok h.1, eqEls_ok h.2]
  | [], _ :: _, h => by simp [eqEls] at h
  | _ :: _, [], h => by simp [eqEls] at h
theorem eqO_ok {x y : Obj'} (h : eqO x y = true) : x = y := by
  simp only [eqO, Bool.and_eq_true, beq_iff_eq, decide_eq_true_eq] at h
  obtain ⟨⟨⟨⟨⟨⟨h1, h2⟩, h3⟩, h4⟩, h5⟩, h6⟩, h7⟩ := h
  cases x; cases y
  simp only at h1 h2 h3 h4 h5 h6 h7
  rw [eqEls_ok h1, h2, h3, h4, h5, h6, h7]
theorem eqOs_ok : ∀ {x y : List Obj'}, eqOs x y = true → x = y
  | [], [], _ => rfl
  | x :: r, y :: s, h => by
    simp only [eqOs, Bool.and_eq_true] at h
    rw [eqO_ok h.1, eqOs_ok h.2]
  | [], _ :: _, h => by simp [eqOs] at h
  | _ :: _, [], h => by simp [eqOs] at h
theorem agree_ok {a b : Option R} {r : R} (h : agree a b = some r) : a = some r ∧ b = some r := by
  unfold agree at h
  split at h
  · rename_i x y
    split at h
    · rename_i hc
      injection h with h; subst h
      simp only [Bool.and_eq_true] at hc
      exact ⟨rfl, by rw [Prod.ext (eqV_ok hc.1) (eqOs_ok hc.2)]⟩
    · cases h
  · cases h
/-- A scope left: a jump to a label in it goes on there, at most so many times. -/
def jumpsP (P : Program) (c : Code) (Q : Exit → Act → World → Prop) : Nat → Exit → Act → World → Prop
  | m, .goto l, a, w => match findLabel c l with
    | none => Q (.goto l) a w
    | some rest => match m with
      | 0 => False
      | m + 1 => rest.wp P (jumpsP P c Q m) a w
  | _, e, a, w => Q e a w
theorem wp_scope_rounds {P : Program} {c : Code} {Q : Exit → Act → World → Prop} {a : Act} {w : World} (m : Nat) (h : c.wp P (jumpsP P c Q m) a w) : (Code.scope c).wp P Q a w := by
  intro b k cs
  have key : ∀ m e a₁ w₁ (M : Machine), jumpsP P c Q m e a₁ w₁ → Arrives P M b (.inScope c :: k) cs e a₁ w₁ → ∃ e a' w', Q e a' w' ∧ Arrives P M b k cs e a' w' := by
    intro m
    induction m with
    | zero =>
      intro e a₁ w₁ M hq harr
      cases e with
      | normal => exact ⟨.normal, a₁, w₁, hq, Steps.trans harr (.one step_inScope)⟩
      | exit id => exact ⟨.exit id, a₁, w₁, hq, fun k' hk => harr k' (by simp [exitTo, hk])⟩
      | goto l =>
        simp only [jumpsP] at hq
        split at hq
        · rename_i hf
          exact ⟨.goto l, a₁, w₁, hq, fun k' hk => harr k' (by simp [gotoIn, hf, hk])⟩
        · exact hq.elim
      | ret => exact ⟨_, a₁, w₁, hq, harr⟩
      | panic ch => exact ⟨_, a₁, w₁, hq, harr⟩
      | outgrown => exact ⟨_, a₁, w₁, hq, harr⟩
    | succ m ih =>
      intro e a₁ w₁ M hq harr
      cases e with
      | normal => exact ⟨.normal, a₁, w₁, hq, Steps.trans harr (.one step_inScope)⟩
      | exit id => exact ⟨.exit id, a₁, w₁, hq, fun k' hk => harr k' (by simp [exitTo, hk])⟩
      | goto l =>
        simp only [jumpsP] at hq
        split at hq
        · rename_i hf
          exact ⟨.goto l, a₁, w₁, hq, fun k' hk => harr k' (by simp [gotoIn, hf, hk])⟩
        · rename_i rest hf
          have hg : gotoIn l (.inScope c :: k) = some (.code rest :: .inScope c :: k) := by simp [gotoIn, hf]
          obtain ⟨e₂, a₂, w₂, hq₂, harr₂⟩ := hq b (.inScope c :: k) cs
          obtain ⟨e₃, a₃, w₃, hq₃, harr₃⟩ := ih e₂ a₂ w₂ _ hq₂ harr₂
          exact ⟨e₃, a₃, w₃, hq₃, .of_steps (harr _ hg) harr₃⟩
      | ret => exact ⟨_, a₁, w₁, hq, harr⟩
      | panic ch => exact ⟨_, a₁, w₁, hq, harr⟩
      | outgrown => exact ⟨_, a₁, w₁, hq, harr⟩
  obtain ⟨e, a₁, w₁, hq, harr⟩ := h b (.inScope c :: k) cs
  obtain ⟨e₂, a₂, w₂, hq₂, harr₂⟩ := key m e a₁ w₁ _ hq harr
  exact ⟨e₂, a₂, w₂, hq₂, .of_steps (.one step_scope) harr₂⟩
theorem hasLabel_find : ∀ (c : Code) (l : Nat), hasLabel l c = (findLabel c l).isSome
  | .seq a b, l => by
    simp only [hasLabel, findLabel, hasLabel_find a l, hasLabel_find b l]
    cases findLabel a l <;> rfl
  | .label l', l => by
    simp only [hasLabel, findLabel]
    split <;> simp_all
  | .skip, _ | .region .., _ | .cond .., _ | .block .., _ | .loop _, _ | .rangeFunc .., _ | .exit _, _ | .scope _, _ | .goto _, _ | .ret, _ | .refuse _, _ => rfl
theorem labsOf_has : ∀ {c : Code} {l : Nat}, hasLabel l c = true → l ∈ labsOf c
  | .seq a b, l, h => by
    simp only [hasLabel, Bool.or_eq_true] at h
    simp only [labsOf, List.mem_append]
    exact h.imp labsOf_has labsOf_has
  | .label l', l, h => by
    simp only [hasLabel, beq_iff_eq] at h
    simp [labsOf, h]
  | .skip, _, h | .region .., _, h | .cond .., _, h | .block .., _, h | .loop _, _, h | .rangeFunc .., _, h | .exit _, _, h | .scope _, _, h | .goto _, _, h | .ret, _, h | .refuse _, _, h => by simp [hasLabel] at h
theorem has_labsOf : ∀ {c : Code} {l : Nat}, l ∈ labsOf c → hasLabel l c = true
  | .seq a b, l, h => by
    simp only [labsOf, List.mem_append] at h
    simp only [hasLabel, Bool.or_eq_true]
    exact h.imp has_labsOf has_labsOf
  | .label l', l, h => by
    simp only [labsOf, List.mem_singleton] at h
    simp [hasLabel, h]
  | .skip, _, h | .region .., _, h | .cond .., _, h | .block .., _, h | .loop _, _, h | .rangeFunc .., _, h | .exit _, _, h | .scope _, _, h | .goto _, _, h | .ret, _, h | .refuse _, _, h => by simp [labsOf] at h

theorem headC_tslot {ob : OB} : ∀ (nc : List NC) (sl : SL) (kb rows : OB) (src : List Nat) (x : SL × OB × OB × List Nat), headC ob nc sl kb rows src = some x → ∀ n m, getS x.1 tslot = .y 1 n m → getS sl tslot = .y 1 n m
  | [], sl, kb, rows, src, x, h, n, m, e => by
    simp only [headC, Option.some.injEq] at h; subst h; exact e
  | .row t o w :: r, sl, kb, rows, src, x, h, n, m, e => by
    simp only [headC] at h
    split at h
    · split at h
      · have := headC_tslot r _ _ _ _ x h n m e
        rcases setS_get sl t _ tslot with h1 | ⟨_, h1⟩
        · rw [h1] at this; exact this
        · rw [h1] at this; cases this
      · cases h
    · cases h
  | .toL t :: r, sl, kb, rows, src, x, h, n, m, e => by
    simp only [headC] at h
    split at h
    · rename_i v hv
      have := headC_tslot r _ _ _ _ x h n m e
      rcases setS_get sl t v tslot with h1 | ⟨_, h1⟩
      · rw [h1] at this; exact this
      · rw [h1] at this
        subst this
        unfold toL at hv
        split at hv <;> simp at hv
    · cases h
  | .crow .. :: _, _, _, _, _, _, h, _, _, _ => by simp [headC] at h
  | .cToL .. :: _, _, _, _, _, _, h, _, _, _ => by simp [headC] at h
theorem head_tslot {h : Hd} {sl : SL} {ob : OB} {x : SL × OB} (H : head h.nc h.ts h.os sl ob = some x) (n m : Nat) (e : getS x.1 tslot = .y 1 n m) : getS sl tslot = .y 1 n m := by
  unfold head at H
  split at H
  · split at H
    · cases H
    · unfold headF at H
      split at H
      · rename_i sl' kb rows src hc
        split at H
        · simp only [Option.some.injEq] at H; subst H
          have := headC_tslot _ _ _ _ _ _ hc n m e
          rcases keepS_get sl h.ts tslot with h1 | h1
          · rw [h1] at this; exact this
          · rw [h1] at this; cases this
        · cases H
      · cases H
  · cases H
theorem headH_tslot {h : Hd} {sl : SL} {ob : OB} {x : SL × OB} (H : headH h sl ob = some x) (n m : Nat) (e : getS x.1 tslot = .y 1 n m) : getS sl tslot = .y 1 n m := by
  unfold headH at H
  obtain ⟨y, hy, H⟩ := bnd_some H
  have h1 := head_tslot H n m e
  rcases renCs_slot _ hy tslot with h2 | h2
  · rw [h2] at h1
    rcases keepS_get sl h.ts tslot with h3 | h3
    · rw [h3] at h1; exact h1
    · rw [h3] at h1; cases h1
  · rw [h2] at h1; cases h1
/-- Loops' heads may be come to. -/
def HeadOK (T : KeepT) : Prop := ∀ C' ds r sl, T C' ds r sl → ∀ k, C'.kp k → k < 64
/-- What is kept by a function that hands on to a loop: where it goes on, and where it does not. -/
structure GoOK (C : Ctx) (T : KeepT) : Prop where
  go : ∀ C' ds r sl γ w tmps ob n i, St C' γ w tmps sl ob → T C' ds r sl → getS sl tslot = .y 1 n 1 → γ.mu 1 = some i → i.ver = n → i.w = 0 → T C' ds r ((tslot, .y 1 n 0) :: sl)
  stop : ∀ C' ds r r' sl γ w tmps ob n i, St C' γ w tmps sl ob → T C' ds r sl → getS sl tslot = .y 1 n 1 → γ.mu 1 = some i → i.ver = n → i.w ≠ 0 → T C' ds r' sl
section
variable {P : Program} {E : Env} {C : Ctx}
theorem inv_head {T : KeepT} (hT : SlotOK E.yp T) (hH : HeadOK T) {r : R} {γ : Gh} {w : World} {a : Act} {sl : SL} {ob : OB} (I : Inv C T r γ w a sl ob) {h : Hd} {x : SL × OB} (H : headH h sl ob = some x) : ∃ γ', Inv C T r γ' w a x.1 x.2 := by
  obtain ⟨C', hf, hg, hTT, S⟩ := I
  obtain ⟨γ', S'⟩ := headH_ok (hH _ _ _ _ hTT) S H
  exact ⟨γ', C', hf, hg, hT _ _ _ _ _ (fun _ n m => headH_tslot H n m) hTT, S'⟩
theorem draw_ok (hE : E.fid = C.fid) (hG : E.glob = C.glob) (hro : ∀ f, E.ro f = false) (hrov : E.rov = false) {Φ : Sem'} (hΦ : Sound P C.fid C.glob Φ) {F : Fence} (hF : Wd F) {T : KeepT} (hT : SlotOK E.yp T) {ops : Array Oper} {n nn id : Nat} {K : Kont} {sl : SL} {ob : OB} {a : Act} {γ : Gh} {w : World} {r : R}
    (hd : ∀ o ∈ ops.toList, ∀ t, o.dst = some t → t < n ∧ (E.yp = true → t < tslot)) (hord : ordOK P E ops = true) (H : denOps P E Φ ops (pairs P E ops) (K .norm) 0 [] ops.toList sl ob = some r) (hs : a.tmps.size = n) (I : Inv C T r γ w a sl ob) :
    (Code.region id ops true).wpIn F nn P (Post C T n K) a w := by
  refine wpIn_region_draw fun t => ?_
  obtain ⟨C', hf, hg, hTT, S⟩ := I
  have S' : St C' γ { w with drawn := w.drawn + 1 } a.tmps sl ob :=
    { S with chg := ⟨S.chg.os, S.chg.tape, S.chg.output, S.chg.size, S.chg.block⟩ }
  obtain ⟨os, y, y', g1, g2, g3, g4⟩ := draw_run (C := C') (by rw [hE, hf]) (by rw [hG, hg]) hro hrov (by rw [hf, hg]; exact hΦ) (fun o ho t ht => (hd o ho t ht).1) (x := (sl, ob)) ⟨a, γ, w, hs, S⟩ hord H (P.follows .mixedOrders) t
  exact run_wpInF hF hT hE hG hro hrov hΦ ops hd _ os a γ _ (sl, ob) y' g1 hs ⟨C', hf, hg, hTT, S'⟩ g2 (fun a' γ' w' h3 h4 => by
    obtain ⟨C2, q1, q2, q3, q4⟩ := h4
    exact ⟨h3, .norm, y.1, y.2, γ', r, rfl, g4, C2, q1, q2, hT _ _ _ _ _ (fun _ n m e => by rw [g3.1]; exact e) q3, q4.eqX g3⟩)
end
end Go.Proofs.YtcimkkcajkmfoaaDoor
