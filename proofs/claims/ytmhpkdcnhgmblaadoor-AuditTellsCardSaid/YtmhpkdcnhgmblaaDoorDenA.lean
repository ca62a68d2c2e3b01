import Derived.Test.YtmhpkdcnhgmblaaDoorDrawB
import Derived.LoopNIn
import Derived.Scope
import Derived.ControlIn
set_option linter.all false
namespace Go.Proofs.YtmhpkdcnhgmblaaDoor
section
open Go
theorem eqV_ok {x y : PV} (h : eqV x y = true) : x = y := by
  unfold eqV at h
  split at h <;> simp_all
theorem eqVs_ok : ∀ {x y : List PV}, eqVs x y = true → x = y
  | [], [], _ => rfl
  | x :: r, y :: s, h => by
    simp only [eqVs, Bool.and_eq_true] at h
    rw [eqV_ok h.1, eqVs_ok h.2]
  | [], _ :: _, h => by simp [eqVs] at h
  | _ :: _, [], h => by simp [eqVs] at h
theorem eqEls_ok : ∀ {x y : List (List PV)}, eqEls x y = true → x = y
  | [], [], _ => rfl
  | x :: r, y :: s, h => by
    simp only [eqEls, Bool.and_eq_true] at h
    rw [eqVs_ok h.1, eqEls_ok h.2]
  | [], _ :: _, h => by simp [eqEls] at h
  | _ :: _, [], h => by simp [eqEls] at h
theorem eqO_ok {x y : Obj'} (h : eqO x y = true) : x = y := by
  simp only [eqO, Bool.and_eq_true, beq_iff_eq, decide_eq_true_eq] at h
  obtain ⟨⟨⟨⟨⟨⟨h1, h2⟩, h3⟩, h4⟩, h5⟩, h6⟩, h7⟩ := h
  cases x; cases y
  simp only at h1 h2 h3 h4 h5 h6 h7
  rw [eqEls_ok h1, h2, h3, h4, h5, h6, h7]
theorem eqOs_ok : ∀ {x y : List Obj'}, eqOs x y = true → x = y
  | [], [], _ => rfl
  | x :: r, y :: s, h => by
    simp only [eqOs, Bool.and_eq_true] at h
    rw [eqO_ok h.1, eqOs_ok h.2]
  | [], _ :: _, h => by simp [eqOs] at h
  | _ :: _, [], h => by simp [eqOs] at h
theorem agree_ok {a b : Option R} {r : R} (h : agree a b = some r) : a = some r ∧ b = some r := by
  unfold agree at h
  split at h
  · rename_i x y
    split at h
    · rename_i hc
      injection h with h; subst h
      simp only [Bool.and_eq_true] at hc
      exact ⟨rfl, by rw [Prod.ext (eqV_ok hc.1) (eqOs_ok hc.2)]⟩
    · cases h
  · cases h
def jumpsP (P : Program) (c : Code) (Q : Exit → Act → World → Prop) : Nat → Exit → Act → World → Prop
  | m, .goto l, a, w => match findLabel c l with
    | none => Q (.goto l) a w
    | some rest => match m with
      | 0 => False
      | m + 1 => rest.wp P (jumpsP P c Q m) a w
  | _, e, a, w => Q e a w
theorem wp_scope_rounds {P : Program} {c : Code} {Q : Exit → Act → World → Prop} {a : Act} {w : World} (m : Nat) (h : c.wp P (jumpsP P c Q m) a w) : (Code.scope c).wp P Q a w := by
  intro b k cs
  have key : ∀ m e a₁ w₁ (M : Machine), jumpsP P c Q m e a₁ w₁ → Arrives P M b (.inScope c :: k) cs e a₁ w₁ → ∃ e a' w', Q e a' w' ∧ Arrives P M b k cs e a' w' := by
    intro m
    induction m with
    | zero =>
      intro e a₁ w₁ M hq harr
      cases e with
      | normal => exact ⟨.normal, a₁, w₁, hq, Steps.trans harr (.one step_inScope)⟩
      | exit id => exact ⟨.exit id, a₁, w₁, hq, fun k' hk => harr k' (by simp [exitTo, hk])⟩
      | goto l =>
        simp only [jumpsP] at hq
        split at hq
        · rename_i hf
          exact ⟨.goto l, a₁, w₁, hq, fun k' hk => harr k' (by simp [gotoIn, hf, hk])⟩
        · exact hq.elim
      | ret => exact ⟨_, a₁, w₁, hq, harr⟩
      | panic ch => exact ⟨_, a₁, w₁, hq, harr⟩
      | outgrown => exact ⟨_, a₁, w₁, hq, harr⟩
    | succ m ih =>
      intro e a₁ w₁ M hq harr
      cases e with
      | normal => exact ⟨.normal, a₁, w₁, hq, Steps.trans harr (.one step_inScope)⟩
      | exit id => exact ⟨.exit id, a₁, w₁, hq, fun k' hk => harr k' (by simp [exitTo, hk])⟩
      | goto l =>
        simp only [jumpsP] at hq
        split at hq
        · rename_i hf
          exact ⟨.goto l, a₁, w₁, hq, fun k' hk => harr k' (by simp [gotoIn, hf, hk])⟩
        · rename_i rest hf
          have hg : gotoIn l (.inScope c :: k) = some (.code rest :: .inScope c :: k) := by simp [gotoIn, hf]
          obtain ⟨e₂, a₂, w₂, hq₂, harr₂⟩ := hq b (.inScope c :: k) cs
          obtain ⟨e₃, a₃, w₃, hq₃, harr₃⟩ := ih e₂ a₂ w₂ _ hq₂ harr₂
          exact ⟨e₃, a₃, w₃, hq₃, .of_steps (harr _ hg) harr₃⟩
      | ret => exact ⟨_, a₁, w₁, hq, harr⟩
      | panic ch => exact ⟨_, a₁, w₁, hq, harr⟩
      | outgrown => exact ⟨_, a₁, w₁, hq, harr⟩
  obtain ⟨e, a₁, w₁, hq, harr⟩ := h b (.inScope c :: k) cs
  obtain ⟨e₂, a₂, w₂, hq₂, harr₂⟩ := key m e a₁ w₁ _ hq harr
  exact ⟨e₂, a₂, w₂, hq₂, .of_steps (.one step_scope) harr₂⟩
theorem hasLabel_find : ∀ (c : Code) (l : Nat), hasLabel l c = (findLabel c l).isSome
  | .seq a b, l => by
    simp only [hasLabel, findLabel, hasLabel_find a l, hasLabel_find b l]
    cases findLabel a l <;> rfl
  | .label l', l => by
    simp only [hasLabel, findLabel]
    split <;> simp_all
  | .skip, _ | .region .., _ | .cond .., _ | .block .., _ | .loop _, _ | .rangeFunc .., _ | .exit _, _ | .scope _, _ | .goto _, _ | .ret, _ | .refuse _, _ => rfl
theorem labsOf_has : ∀ {c : Code} {l : Nat}, hasLabel l c = true → l ∈ labsOf c
  | .seq a b, l, h => by
    simp only [hasLabel, Bool.or_eq_true] at h
    simp only [labsOf, List.mem_append]
    exact h.imp labsOf_has labsOf_has
  | .label l', l, h => by
    simp only [hasLabel, beq_iff_eq] at h
    simp [labsOf, h]
  | .skip, _, h | .region .., _, h | .cond .., _, h | .block .., _, h | .loop _, _, h | .rangeFunc .., _, h | .exit _, _, h | .scope _, _, h | .goto _, _, h | .ret, _, h | .refuse _, _, h => by simp [hasLabel] at h
theorem has_labsOf : ∀ {c : Code} {l : Nat}, l ∈ labsOf c → hasLabel l c = true
  | .seq a b, l, h => by
    simp only [labsOf, List.mem_append] at h
    simp only [hasLabel, Bool.or_eq_true]
    exact h.imp has_labsOf has_labsOf
  | .label l', l, h => by
    simp only [labsOf, List.mem_singleton] at h
    simp [hasLabel, h]
  | .skip, _, h | .region .., _, h | .cond .., _, h | .block .., _, h | .loop _, _, h | .rangeFunc .., _, h | .exit _, _, h | .scope _, _, h | .goto _, _, h | .ret, _, h | .refuse _, _, h => by simp [labsOf] at h
theorem headC_tslot {ob : OB} : ∀ (nc : List NC) (sl : SL) (kb rows : OB) (src : List Nat) (x : SL × OB × OB × List Nat), headC ob nc sl kb rows src = some x → ∀ n m, getS x.1 tslot = .y 1 n m → getS sl tslot = .y 1 n m
  | [], sl, kb, rows, src, x, h, n, m, e => by
    simp only [headC, Option.some.injEq] at h; subst h; exact e
  | .row t o w :: r, sl, kb, rows, src, x, h, n, m, e => by
    simp only [headC] at h
    split at h
    · split at h
      · have := headC_tslot r _ _ _ _ x h n m e
        rcases setS_get sl t _ tslot with h1 | ⟨_, h1⟩
        · rw [h1] at this; exact this
        · rw [h1] at this; cases this
      · cases h
    · cases h
  | .toL t :: r, sl, kb, rows, src, x, h, n, m, e => by
    simp only [headC] at h
    split at h
    · rename_i v hv
      have := headC_tslot r _ _ _ _ x h n m e
      rcases setS_get sl t v tslot with h1 | ⟨_, h1⟩
      · rw [h1] at this; exact this
      · rw [h1] at this
        subst this
        unfold toL at hv
        split at hv <;> simp at hv
    · cases h
  | .crow .. :: _, _, _, _, _, _, h, _, _, _ => by simp [headC] at h
  | .cToL .. :: _, _, _, _, _, _, h, _, _, _ => by simp [headC] at h
theorem head_tslot {h : Hd} {sl : SL} {ob : OB} {x : SL × OB} (H : head h.nc h.ts h.os sl ob = some x) (n m : Nat) (e : getS x.1 tslot = .y 1 n m) : getS sl tslot = .y 1 n m := by
  unfold head at H
  split at H
  · split at H
    · cases H
    · unfold headF at H
      split at H
      · rename_i sl' kb rows src hc
        split at H
        · simp only [Option.some.injEq] at H; subst H
          have := headC_tslot _ _ _ _ _ _ hc n m e
          rcases keepS_get sl h.ts tslot with h1 | h1
          · rw [h1] at this; exact this
          · rw [h1] at this; cases this
        · cases H
      · cases H
  · cases H
theorem headH_tslot {h : Hd} {sl : SL} {ob : OB} {x : SL × OB} (H : headH h sl ob = some x) (n m : Nat) (e : getS x.1 tslot = .y 1 n m) : getS sl tslot = .y 1 n m := by
  unfold headH at H
  obtain ⟨y, hy, H⟩ := bnd_some H
  have h1 := head_tslot H n m e
  rcases renCs_slot _ hy tslot with h2 | h2
  · rw [h2] at h1
    rcases keepS_get sl h.ts tslot with h3 | h3
    · rw [h3] at h1; exact h1
    · rw [h3] at h1; cases h1
  · rw [h2] at h1; cases h1
def HeadOK (T : KeepT) : Prop := ∀ C' ds r sl, T C' ds r sl → ∀ k, C'.kp k → k < 64
structure GoOK (C : Ctx) (T : KeepT) : Prop where
  go : ∀ C' ds r sl γ w tmps ob n i, St C' γ w tmps sl ob → T C' ds r sl → getS sl tslot = .y 1 n 1 → γ.mu 1 = some i → i.ver = n → i.w = 0 → T C' ds r ((tslot, .y 1 n 0) :: sl)
  stop : ∀ C' ds r r' sl γ w tmps ob n i, St C' γ w tmps sl ob → T C' ds r sl → getS sl tslot = .y 1 n 1 → γ.mu 1 = some i → i.ver = n → i.w ≠ 0 → T C' ds r' sl
section
variable {P : Program} {E : Env} {C : Ctx}
theorem inv_head {T : KeepT} (hT : SlotOK E.yp T) (hH : HeadOK T) {r : R} {γ : Gh} {w : World} {a : Act} {sl : SL} {ob : OB} (I : Inv C T r γ w a sl ob) {h : Hd} {x : SL × OB} (H : headH h sl ob = some x) : ∃ γ', Inv C T r γ' w a x.1 x.2 := by
  obtain ⟨C', hf, hg, hTT, S⟩ := I
  obtain ⟨γ', S'⟩ := headH_ok (hH _ _ _ _ hTT) S H
  exact ⟨γ', C', hf, hg, hT _ _ _ _ _ (fun _ n m => headH_tslot H n m) hTT, S'⟩
theorem draw_ok (hE : E.fid = C.fid) (hG : E.glob = C.glob) (hro : True) (hrov : E.rov = false) {Φ : Sem'} (hΦ : Sound P C.fid C.glob Φ) {F : Fence} (hF : Wd F) {T : KeepT} (hT : SlotOK E.yp T) {ops : Array Oper} {n nn id : Nat} {K : Kont} {sl : SL} {ob : OB} {a : Act} {γ : Gh} {w : World} {r : R}
    (hd : ∀ o ∈ ops.toList, ∀ t, o.dst = some t → t < n ∧ (E.yp = true → t < tslot)) (hord : ordOK P E ops = true) (H : denOps P E Φ ops (pairs P E ops) (K .norm) 0 [] ops.toList sl ob = some r) (hs : a.tmps.size = n) (I : Inv C T r γ w a sl ob) :
    (Code.region id ops true).wpIn F nn P (Post C T n K) a w := by
  refine wpIn_region_draw fun t => ?_
  obtain ⟨C', hf, hg, hTT, S⟩ := I
  have S' : St C' γ { w with drawn := w.drawn + 1 } a.tmps sl ob :=
    { S with chg := ⟨S.chg.os, S.chg.tape, S.chg.output, S.chg.size, S.chg.block⟩ }
  obtain ⟨os, y, y', g1, g2, g3, g4⟩ := draw_run (C := C') (by rw [hE, hf]) (by rw [hG, hg]) hro ⟨hrov, trivial⟩ (by rw [hf, hg]; exact hΦ) (fun o ho t ht => (hd o ho t ht).1) (x := (sl, ob)) ⟨a, γ, w, hs, S⟩ hord H (P.follows .mixedOrders) t
  exact run_wpInF hF hT hE hG hro hrov hΦ ops hd _ os a γ _ (sl, ob) y' g1 hs ⟨C', hf, hg, hTT, S'⟩ g2 (fun a' γ' w' h3 h4 => by
    obtain ⟨C2, q1, q2, q3, q4⟩ := h4
    exact ⟨h3, .norm, y.1, y.2, γ', r, rfl, g4, C2, q1, q2, hT _ _ _ _ _ (fun _ n m e => by rw [g3.1]; exact e) q3, q4.eqX g3⟩)
end
end
section
open Go
def YOK (P : Program) (E : Env) (C : Ctx) (F : Fence) (nn M : Nat) (T : KeepT) : Prop :=
  ∀ (o : Oper) (f : Operand) (args : Array Operand), valCall o.op = some (f, args) → (∀ t, o.dst = some t → t < M ∧ t < tslot) → ∀ (sl : SL) (ob : OB) (a : Act) (γ : Gh) (w : World) (r : R) (K' : SL → OB → Option R) (next : Act → World → Prop) (Q : Exit → Act → World → Prop),
    yK ob sl o.dst (ev E sl f) (evs E sl args.toList) K' = some r → a.tmps.size = M → Inv C T r γ w a sl ob →
    (∀ v γ' w' sl' ob' r', K' sl' ob' = some r' → Inv C T r' γ' w' (a.put o.dst v) sl' ob' → next (a.put o.dst v) w') → o.wpIn F nn P a w next Q
def RgT (T : KeepT) : Prop := ∀ C' ds r sl sl' γ w w' tmps ob (Q : Nat → Prop) D, T C' ds r sl → St C' γ w tmps sl ob → Chg Q w w' → (∀ b, b < C'.w0.heap.size → Q b → C'.A b) → (∀ b, b < w.heap.size → Q b → ¬ γ.im b ∧ ¬ ownB γ b) →
  D < w'.heap.size → ¬ ownB γ D → ¬ γ.im D → C'.w0.heap.size ≤ D → w'.heap[D]? = some (.deferred (some [])) → T (C'.re γ w' C'.kp) ({ target := .collected D, args := #[] } :: ds) r sl'
def DenOK (P : Program) (E : Env) (C : Ctx) (Φ : Sem') (N n M : Nat) (c : Code) : Prop :=
  ∀ (nn : Nat) (F : Fence), Wd F → ∀ (T : KeepT), SlotOK E.yp T → (E.yp = true → GoOK C T ∧ YOK P E C F nn M T) → (noHead c = false → F = Fence.wide ∧ HeadOK T ∧ (E.yp = false → RgT T)) →
    (∀ (K : Kont) (sl : SL) (ob : OB) (a : Act) (γ : Gh) (w : World) (r : R), den P E Φ N n c none K sl ob = some r → a.tmps.size = M → Inv C T r γ w a sl ob → c.wpIn F nn P (Post C T M K) a w) ∧
    ∀ (l : Nat) (rest : Code), findLabel c l = some rest → ∀ (K : Kont) (sl : SL) (ob : OB) (a : Act) (γ : Gh) (w : World) (r : R), den P E Φ N n c (some l) K sl ob = some r → a.tmps.size = M → Inv C T r γ w a sl ob → rest.wpIn F nn P (Post C T M K) a w
section
variable {P : Program} {E : Env} {C : Ctx} {F : Fence}
theorem runY (hF : Wd F) {T : KeepT} (hT : SlotOK E.yp T) {Q : Exit → Act → World → Prop} {n N : Nat} (hY : YOK P E C F n N T) (hE : E.fid = C.fid) (hG : E.glob = C.glob) (hro : True) (hrov : E.rov = false) {Φ : Sem'} (hΦ : Sound P C.fid C.glob Φ) (hyp : E.yp = true) (ops : Array Oper) (hd : ∀ o ∈ ops.toList, ∀ t, o.dst = some t → t < N ∧ (E.yp = true → t < tslot)) {K : SL → OB → Option R}
    (hQ : ∀ a' γ' w' sl' ob' r', K sl' ob' = some r' → a'.tmps.size = N → Inv C T r' γ' w' a' sl' ob' → Q .normal a' w') :
    ∀ (l : List Nat) (os : List Oper) (a : Act) (γ : Gh) (w : World) (sl : SL) (ob : OB) (r : R), l.map (ops[·]?) = os.map some → denOpsY P E Φ ops K os sl ob = some r → a.tmps.size = N → Inv C T r γ w a sl ob → wpOpsIn F n P ops Q l a w
  | [], os, a, γ, w, sl, ob, r, hl, H, hs, I => by
    cases os with
    | nil => simp only [denOpsY] at H; exact hQ a γ w sl ob r H hs I
    | cons o r => simp at hl
  | i :: l, os, a, γ, w, sl, ob, r, hl, H, hs, I => by
    cases os with
    | nil => simp at hl
    | cons o rest =>
      simp only [List.map_cons, List.cons.injEq] at hl
      obtain ⟨hi, hl⟩ := hl
      have hmem : o ∈ ops.toList := by
        rw [Array.mem_toList_iff]; exact Array.mem_of_getElem? hi
      have hd1 := hd o hmem
      simp only [wpOpsIn, hi]
      simp only [denOpsY] at H
      have skip : ∀ (b : Bool), wantA ops o sl = some b → b = false → denOpsY P E Φ ops K rest (putS o.dst (.tup []) sl) ob = some r → ¬ Region.wanted o (yielded ops a.tmps) = true ∧ wpOpsIn F n P ops Q l (a.put o.dst undef) w := by
        intro b hw hb H'
        subst hb
        obtain ⟨C', hf, hg, hTT, S⟩ := I
        refine ⟨by rw [want_ok S hw]; simp, ?_⟩
        have hT2 : T C' a.defers r (putS o.dst (.tup []) sl) := by
          refine hT _ _ _ _ _ (fun hy k m h => ?_) hTT
          cases hdst : o.dst with
          | none => rw [hdst] at h; exact h
          | some t =>
            rw [hdst] at h
            simp only [putS, getS_cons] at h
            rw [if_neg (fun e => by subst e; exact Nat.lt_irrefl _ ((hd1 _ hdst).2 hy))] at h
            exact h
        have hdf : (a.put o.dst undef).defers = a.defers := by cases o.dst <;> rfl
        exact runY hF hT hY hE hG hro hrov hΦ hyp ops hd hQ l rest _ γ w _ ob r hl H' (by rw [put_size]; exact hs) ⟨C', hf, hg, by rw [hdf]; exact hT2, put_st S (fun t ht => by rw [hs]; exact (hd1 t ht).1) (RV_tup.2 ⟨#[], rfl, rfl, by simp only [RL]⟩)⟩
      have doit : ∀ (f : Operand) (args : Array Operand), valCall o.op = some (f, args) → wantA ops o sl = some true → yK ob sl o.dst (ev E sl f) (evs E sl args.toList) (denOpsY P E Φ ops K rest) = some r → Region.wanted o (yielded ops a.tmps) = true ∧ o.wpIn F n P a w (fun a w => wpOpsIn F n P ops Q l a w) Q := by
        intro f args hv hw H'
        obtain ⟨C', hf, hg, hTT, S⟩ := I
        refine ⟨want_ok S hw, ?_⟩
        exact hY o f args hv (fun t ht => ⟨(hd1 t ht).1, (hd1 t ht).2 hyp⟩) sl ob a γ w r _ _ Q H' hs ⟨C', hf, hg, hTT, S⟩ (fun v γ' w' sl' ob' r' hK I' => runY hF hT hY hE hG hro hrov hΦ hyp ops hd hQ l rest _ γ' w' sl' ob' r' hl hK (by rw [put_size]; exact hs) I')
      split at H
      · rename_i f args hv
        split at H
        · rename_i hg
          obtain ⟨h1, h2⟩ := doit f args hv (by unfold wantA; rw [hg]) H
          rw [if_pos h1]; exact h2
        · rename_i j wt hg
          split at H
          · cases H
          · rename_i t ht
            split at H
            · rename_i c hc
              split at H
              · rename_i e
                subst e
                obtain ⟨h1, h2⟩ := doit f args hv (by unfold wantA; simp [hg, ht, hc]) H
                rw [if_pos h1]; exact h2
              · rename_i e
                obtain ⟨h1, h2⟩ := skip (c == wt) (by unfold wantA; simp [hg, ht, hc]) (by simpa using e) H
                rw [if_neg h1]; exact ⟨fun f _ => hF.fn f, h2⟩
            · rename_i hc
              obtain ⟨h1, h2⟩ := skip false (by unfold wantA; simp [hg, ht, hc]) rfl H
              rw [if_neg h1]; exact ⟨fun f _ => hF.fn f, h2⟩
            · cases H
      · obtain ⟨x1, h2, H⟩ := denI_step H
        have := op_wpInF (n := n) hF hT hE hG hro hrov hΦ hd1 (x := (sl, ob)) hs I h2 (next := fun a w => wpOpsIn F n P ops Q l a w) (Q := Q) (fun a' γ' w' h1 h2 => runY hF hT hY hE hG hro hrov hΦ hyp ops hd hQ l rest a' γ' w' x1.1 x1.2 r hl H h1 h2)
        split
        · rename_i h1; rw [if_pos h1] at this; exact this
        · rename_i h1; rw [if_neg h1] at this; exact ⟨fun f _ => hF.fn f, this⟩
theorem St.tsl {γ : Gh} {w : World} {tmps : Array Value} {sl : SL} {ob : OB} (S : St C γ w tmps sl ob) {v : PV} (h : ∀ x, RV C.fid γ w.heap x v) : St C γ w tmps ((tslot, v) :: sl) ob :=
  S.slots fun t => by
    rw [getS_cons]
    split
    · exact h _
    · exact S.slot t
theorem goStop_some {G S : Option R} {r : R} (h : goStop G S = some r) : G = some r ∧ ∃ r', S = some r' := by
  unfold goStop at h
  split at h
  · exact ⟨h, _, rfl⟩
  · cases h
theorem brGo_some {n : Nat} {A B : SL → OB → Option R} {sl : SL} {ob : OB} {v : PV} {x : Option Obj'} {r : R} (h : brGo n A B sl ob v x = some r) : v = .y 1 n 1 ∧ (∃ x', x = some x' ∧ x'.ver = n) ∧ A ((tslot, .y 1 n 0) :: sl) ob = some r ∧ ∃ r', B sl ob = some r' := by
  unfold brGo at h
  split at h
  · split at h
    · rename_i hc
      obtain ⟨rfl, hv⟩ := hc
      obtain ⟨h1, h2⟩ := goStop_some h
      exact ⟨rfl, ⟨_, rfl, hv⟩, h1, h2⟩
    · cases h
  · cases h
end
end
section
open Go
section
variable {P : Program} {E : Env} {C : Ctx}
theorem inv_eqs {T : KeepT} {r : R} {γ : Gh} {w : World} {a : Act} {sl : SL} {ob : OB} (hE : E.fid = C.fid) (hG : E.glob = C.glob) (I : Inv C T r γ w a sl ob) (c : Operand) : RV C.fid γ w.heap (a.eval c) (ev E sl c) := by
  obtain ⟨C', hf, hg, _, S⟩ := I
  rw [← hf]
  exact ev_ok (by rw [hE, hf]) (by rw [hG, hg]) S c
theorem brY_ok (hE : E.fid = C.fid) (hG : E.glob = C.glob) {T : KeepT} (hGo : GoOK C T) {A B : SL → OB → Option R} {sl : SL} {ob : OB} {r : R} {γ : Gh} {w : World} {a : Act} {c : Operand} (H : brY (ev E sl c) A B sl ob = some r) (I : Inv C T r γ w a sl ob) :
    (a.eval c = .bool true ∧ ∃ sl' r', A sl' ob = some r' ∧ Inv C T r' γ w a sl' ob) ∨ (a.eval c = .bool false ∧ ∃ sl' r', B sl' ob = some r' ∧ Inv C T r' γ w a sl' ob) := by
  have hv := inv_eqs hE hG I c
  obtain ⟨C', hf, hg, hTT, S⟩ := I
  have look : ∀ n, getS sl tslot = .y 1 n 1 → (∃ x', getO ob 1 = some x' ∧ x'.ver = n) → ∃ i, γ.mu 1 = some i ∧ i.ver = n := by
    rintro n _ ⟨x', hx, hv⟩
    obtain ⟨i, h1, h2, _⟩ := S.obj 1 x' hx
    exact ⟨i, h1, by rw [← h2, hv]⟩
  have goes : ∀ n i, getS sl tslot = .y 1 n 1 → γ.mu 1 = some i → i.ver = n → i.w = 0 → Inv C T r γ w a ((tslot, .y 1 n 0) :: sl) ob := by
    intro n i h1 h2 h3 h4
    refine ⟨C', hf, hg, hGo.go _ _ _ _ _ _ _ _ n i S hTT h1 h2 h3 h4, S.tsl fun x => ?_⟩
    simp only [RV, RAt]
    exact ⟨i, h2, by omega, fun _ => h4⟩
  have stops : ∀ n i r', getS sl tslot = .y 1 n 1 → γ.mu 1 = some i → i.ver = n → i.w ≠ 0 → Inv C T r' γ w a sl ob := fun n i r' h1 h2 h3 h4 => ⟨C', hf, hg, hGo.stop _ _ _ r' _ _ _ _ _ n i S hTT h1 h2 h3 h4, S⟩
  unfold brY at H
  split at H
  · rename_i n hc
    obtain ⟨h1, h2, h3, r', h4⟩ := brGo_some H
    obtain ⟨i, hi, hin⟩ := look n h1 h2
    rw [hc] at hv
    simp only [RV, RAt] at hv
    obtain ⟨i', hi', _, x, hx, hw⟩ := hv
    rw [hi] at hi'
    injection hi' with hi'
    subst hi'
    have hx' : a.eval c = .bool x := by simpa using hx
    have hw' := hw hin.symm
    by_cases h0 : i.w = 0
    · refine .inl ⟨by rw [hx', hw', h0]; rfl, _, _, h3, goes n i h1 hi hin h0⟩
    · refine .inr ⟨by rw [hx', hw']; simpa using h0, _, _, h4, stops n i r' h1 hi hin h0⟩
  · rename_i n hc
    obtain ⟨h1, h2, h3, r', h4⟩ := brGo_some H
    obtain ⟨i, hi, hin⟩ := look n h1 h2
    rw [hc] at hv
    simp only [RV, RAt] at hv
    obtain ⟨i', hi', _, x, hx, hw⟩ := hv
    rw [hi] at hi'
    injection hi' with hi'
    subst hi'
    have hx' : a.eval c = .bool x := by simpa using hx
    have hw' := hw hin.symm
    by_cases h0 : i.w = 0
    · refine .inr ⟨by rw [hx', hw', h0]; rfl, _, _, h3, goes n i h1 hi hin h0⟩
    · refine .inl ⟨by rw [hx', hw']; simpa using h0, _, _, h4, stops n i r' h1 hi hin h0⟩
  · unfold br at H
    split at H
    · rename_i b hc
      rw [hc, RV_b] at hv
      cases b with
      | true => exact .inl ⟨hv, sl, r, by simpa using H, C', hf, hg, hTT, S⟩
      | false => exact .inr ⟨hv, sl, r, by simpa using H, C', hf, hg, hTT, S⟩
    · rename_i hc
      obtain ⟨h1, h2⟩ := agree_ok H
      rw [hc, RV_ub] at hv
      obtain ⟨b, hv⟩ := hv
      cases b with
      | true => exact .inl ⟨hv, sl, r, h1, C', hf, hg, hTT, S⟩
      | false => exact .inr ⟨hv, sl, r, h2, C', hf, hg, hTT, S⟩
    · cases H
theorem br_ok (hE : E.fid = C.fid) (hG : E.glob = C.glob) {T : KeepT} {x y : Option R} {sl : SL} {ob : OB} {r : R} {γ : Gh} {w : World} {a : Act} {c : Operand} (H : br (ev E sl c) x y = some r) (I : Inv C T r γ w a sl ob) :
    (a.eval c = .bool true ∧ x = some r) ∨ (a.eval c = .bool false ∧ y = some r) := by
  have hv := inv_eqs hE hG I c
  unfold br at H
  split at H
  · rename_i b hc
    rw [hc, RV_b] at hv
    cases b with
    | true => exact .inl ⟨hv, by simpa using H⟩
    | false => exact .inr ⟨hv, by simpa using H⟩
  · rename_i hc
    obtain ⟨h1, h2⟩ := agree_ok H
    rw [hc, RV_ub] at hv
    obtain ⟨b, hv⟩ := hv
    cases b with
    | true => exact .inl ⟨hv, h1⟩
    | false => exact .inr ⟨hv, h2⟩
  · cases H
theorem den_sound (hE : E.fid = C.fid) (hG : E.glob = C.glob) (hro : True) (hrov : E.rov = false) {Φ : Sem'} (hΦ : Sound P C.fid C.glob Φ) {N n M : Nat} (hM : n ≤ M) (hts : E.yp = true → n ≤ tslot)
    (hRg : ∀ f ps as c, DenOK P E C Φ N n M as → DenOK P E C Φ N n M c → DenOK P E C Φ N n M (.rangeFunc f ps as c)) : ∀ (c : Code), DenOK P E C Φ N n M c := by
  intro c
  induction c with
  | skip =>
    intro nn F hF T hT hY hH
    refine ⟨?_, fun l rest hf => by simp [findLabel] at hf⟩
    intro K sl ob a γ w r H hs I
    simp only [den] at H
    exact wpIn_skip ⟨hs, .norm, sl, ob, γ, r, rfl, H, I⟩
  | region id ops draw =>
    intro nn F hF T hT hY hH
    refine ⟨?_, fun l rest hf => by simp [findLabel] at hf⟩
    intro K sl ob a γ w r H hs I
    simp only [den] at H
    split at H
    · rename_i hall
      have hd : ∀ o ∈ ops.toList, ∀ t, o.dst = some t → t < M ∧ (E.yp = true → t < tslot) := by
        intro o ho t ht
        rw [← Array.all_toList] at hall
        have := List.all_eq_true.1 hall o ho
        rw [ht] at this
        have h1 : t < n := by simpa using this
        exact ⟨Nat.lt_of_lt_of_le h1 hM, fun hy => Nat.lt_of_lt_of_le h1 (hts hy)⟩
      have hrange : (List.range ops.size).map (ops[·]?) = ops.toList.map some := by
        apply List.ext_getElem?
        intro j
        rw [List.getElem?_map, List.getElem?_map]
        by_cases hj : j < ops.size
        · rw [List.getElem?_range hj]; simp [hj]
        · rw [List.getElem?_eq_none (by simp; omega), List.getElem?_eq_none (by simp; omega)]; rfl
      cases draw with
      | false =>
        simp only at H
        split at H
        · rename_i hc
          exact wpIn_region (runY hF hT (hY hc.1).2 hE hG hro hrov hΦ hc.1 ops hd (fun a' γ' w' sl' ob' r' h1 h2 h3 => ⟨h2, .norm, sl', ob', γ', r', rfl, h1, h3⟩) _ _ a γ w sl ob r hrange H hs I)
        · obtain ⟨y, h1, h2⟩ := denOps_run H
          exact wpIn_region (run_wpInF hF hT hE hG hro hrov hΦ ops hd (List.range ops.size) ops.toList a γ w (sl, ob) y hrange hs I h1 (fun a' γ' w' h3 h4 => ⟨h3, .norm, y.1, y.2, γ', r, rfl, h2, h4⟩))
      | true =>
        simp only at H
        split at H
        · rename_i ho
          exact draw_ok hE hG hro hrov hΦ hF hT hd ho H hs I
        · cases H
    · cases H
  | seq x y ihx ihy =>
    intro nn F hF T hT hY hH
    have hx := ihx nn F hF T hT hY (fun h => hH (by simp [noHead, h]))
    have hy := ihy nn F hF T hT hY (fun h => hH (by simp [noHead, h]))
    have both : ∀ (K : Kont) (x' : Code) (a : Act) (w : World), x'.wpIn F nn P (Post C T M (thenK (den P E Φ N n y none K) K)) a w → (Code.seq x' y).wpIn F nn P (Post C T M K) a w := by
      intro K x' a w h
      refine wpIn_seq (wpIn_mono h ?_)
      rintro e a' w' ⟨h1, o, sl', ob', γ', r', he, hK, I'⟩
      cases o with
      | norm => subst he; exact hy.1 K sl' ob' a' γ' w' r' hK h1 I'
      | exit id => subst he; exact ⟨h1, .exit id, sl', ob', γ', r', rfl, hK, I'⟩
      | goto l => subst he; exact ⟨h1, .goto l, sl', ob', γ', r', rfl, hK, I'⟩
      | ret => subst he; exact ⟨h1, .ret, sl', ob', γ', r', rfl, hK, I'⟩
    constructor
    · intro K sl ob a γ w r H hs I
      simp only [den] at H
      exact both K x a w (hx.1 _ sl ob a γ w r H hs I)
    · intro l rest hf K sl ob a γ w r H hs I
      simp only [den, hasLabel_find] at H
      simp only [findLabel] at hf
      cases hx' : findLabel x l with
      | some rx =>
        rw [hx'] at hf H
        injection hf with hf; subst hf
        exact both K rx a w (hx.2 l rx hx' _ sl ob a γ w r (by simpa using H) hs I)
      | none =>
        rw [hx'] at hf H
        exact hy.2 l rest hf K sl ob a γ w r (by simpa using H) hs I
  | cond c x y ihx ihy =>
    intro nn F hF T hT hY hH
    have hx := ihx nn F hF T hT hY (fun h => hH (by simp [noHead, h]))
    have hy := ihy nn F hF T hT hY (fun h => hH (by simp [noHead, h]))
    refine ⟨?_, fun l rest hf => by simp [findLabel] at hf⟩
    intro K sl ob a γ w r H hs I
    simp only [den] at H
    split at H
    · rename_i hyp
      rcases brY_ok hE hG (hY hyp).1 H I with ⟨h1, sl', r', h2, h3⟩ | ⟨h1, sl', r', h2, h3⟩
      · exact wpIn_cond_true h1 (hx.1 K sl' ob a γ w r' h2 hs h3)
      · exact wpIn_cond_false h1 (hy.1 K sl' ob a γ w r' h2 hs h3)
    · rcases br_ok hE hG H I with ⟨h1, h2⟩ | ⟨h1, h2⟩
      · exact wpIn_cond_true h1 (hx.1 K sl ob a γ w r h2 hs I)
      · exact wpIn_cond_false h1 (hy.1 K sl ob a γ w r h2 hs I)
  | block id c ih =>
    intro nn F hF T hT hY hH
    have hc := ih nn F hF T hT hY (fun h => hH (by simpa [noHead] using h))
    refine ⟨?_, fun l rest hf => by simp [findLabel] at hf⟩
    intro K sl ob a γ w r H hs I
    simp only [den] at H
    refine wpIn_block (wpIn_mono (hc.1 _ sl ob a γ w r H hs I) ?_)
    rintro e a' w' ⟨h1, o, sl', ob', γ', r', he, hK, I'⟩
    subst he
    cases o with
    | norm => exact ⟨h1, .norm, sl', ob', γ', r', rfl, hK, I'⟩
    | exit id' =>
      simp only [inBlk] at hK
      simp only [exitOf, Exit.inBlock]
      split at hK
      · rename_i e
        rw [if_pos e]; exact ⟨h1, .norm, sl', ob', γ', r', rfl, hK, I'⟩
      · rename_i e
        rw [if_neg e]; exact ⟨h1, .exit id', sl', ob', γ', r', rfl, hK, I'⟩
    | goto l => exact ⟨h1, .goto l, sl', ob', γ', r', rfl, hK, I'⟩
    | ret => exact ⟨h1, .ret, sl', ob', γ', r', rfl, hK, I'⟩
  | loop c ih =>
    intro nn F hF T hT hY hH
    obtain ⟨rfl, hHd, hRt⟩ := hH rfl
    have hc := ih nn Fence.wide hF T hT hY (fun _ => ⟨rfl, hHd, hRt⟩)
    refine ⟨?_, fun l rest hf => by simp [findLabel] at hf⟩
    intro K sl ob a γ w r H hs I
    simp only [den] at H
    split at H
    · cases H
    · rename_i hd hann
      unfold normK at H
      obtain ⟨x, hx, H⟩ := bnd_some H
      obtain ⟨γ1, I1⟩ := inv_head hT hHd I hx
      have key : ∀ m (x : SL × OB) (a : Act) (γ : Gh) (w : World) (r : R), loopC (fun g => den P E Φ N n c none (thenK (fun sl ob => bnd (headH hd sl ob) fun x => g x.1 x.2) K)) m x.1 x.2 = some r → a.tmps.size = M → Inv C T r γ w a x.1 x.2 →
          Code.roundsIn Fence.wide nn P c (Post C T M K) m a w := by
        intro m
        induction m with
        | zero => intro x a γ w r H; simp [loopC] at H
        | succ m ihm =>
          intro x a γ w r H hs I
          simp only [loopC] at H
          rw [roundsIn_succ]
          refine wpIn_mono (hc.1 _ x.1 x.2 a γ w r H hs I) ?_
          rintro e a' w' ⟨h1, o, sl', ob', γ', r', he, hK, I'⟩
          subst he
          cases o with
          | norm =>
            simp only [thenK] at hK
            obtain ⟨y, hy, hK⟩ := bnd_some hK
            obtain ⟨γ2, I2⟩ := inv_head hT hHd I' hy
            exact ihm y a' γ2 w' r' hK h1 I2
          | exit id => exact ⟨h1, .exit id, sl', ob', γ', r', rfl, hK, I'⟩
          | goto l => exact ⟨h1, .goto l, sl', ob', γ', r', rfl, hK, I'⟩
          | ret => exact ⟨h1, .ret, sl', ob', γ', r', rfl, hK, I'⟩
      exact wpIn_loop_rounds N (key N x a γ1 w r H hs I1)
  | rangeFunc f ps x y ihx ihy => exact hRg f ps x y ihx ihy
  | exit id =>
    intro nn F hF T hT hY hH
    refine ⟨?_, fun l rest hf => by simp [findLabel] at hf⟩
    intro K sl ob a γ w r H hs I
    simp only [den] at H
    exact wpIn_exit ⟨hs, .exit id, sl, ob, γ, r, rfl, H, I⟩
  | scope c ih =>
    intro nn F hF T hT hY hH
    obtain ⟨rfl, hHd, hRt⟩ := hH rfl
    have hc := ih nn Fence.wide hF T hT hY (fun _ => ⟨rfl, hHd, hRt⟩)
    refine ⟨?_, fun l rest hf => by simp [findLabel] at hf⟩
    intro K sl ob a γ w r H hs I
    simp only [den] at H
    split at H
    case h_2 => cases H
    rename_i l0 hl0
    have hone : ∀ l, findLabel c l ≠ none → l = l0 := by
      intro l hl
      have : hasLabel l c = true := by rw [hasLabel_find]; cases hf : findLabel c l <;> simp_all
      have := labsOf_has this
      rw [hl0] at this
      simpa using this
    obtain ⟨rest, hrest⟩ : ∃ rest, findLabel c l0 = some rest := by
      have : hasLabel l0 c = true := has_labsOf (by rw [hl0]; simp)
      rw [hasLabel_find] at this
      exact Option.isSome_iff_exists.1 this
    have conv : ∀ m e a w, Post C T M (jmp E l0 (loopC (fun g => den P E Φ N n c (some l0) (jmp E l0 g K)) m) K) e a w → jumpsP P c (Post C T M K) m e a w := by
      intro m
      induction m with
      | zero =>
        rintro e a' w' ⟨h1, o, sl', ob', γ', r', he, hK, I'⟩
        subst he
        cases o with
        | norm => exact ⟨h1, .norm, sl', ob', γ', r', rfl, hK, I'⟩
        | exit id => exact ⟨h1, .exit id, sl', ob', γ', r', rfl, hK, I'⟩
        | ret => exact ⟨h1, .ret, sl', ob', γ', r', rfl, hK, I'⟩
        | goto l =>
          simp only [jmp] at hK
          simp only [exitOf, jumpsP]
          split at hK
          · split at hK
            · unfold normK at hK
              obtain ⟨x, hx, hK⟩ := bnd_some hK
              simp [loopC] at hK
            · cases hK
          · rename_i hne
            cases hf : findLabel c l with
            | none => exact ⟨h1, .goto l, sl', ob', γ', r', rfl, hK, I'⟩
            | some rest' => exact absurd (hone l (by rw [hf]; simp)) hne
      | succ m ihm =>
        rintro e a' w' ⟨h1, o, sl', ob', γ', r', he, hK, I'⟩
        subst he
        cases o with
        | norm => exact ⟨h1, .norm, sl', ob', γ', r', rfl, hK, I'⟩
        | exit id => exact ⟨h1, .exit id, sl', ob', γ', r', rfl, hK, I'⟩
        | ret => exact ⟨h1, .ret, sl', ob', γ', r', rfl, hK, I'⟩
        | goto l =>
          simp only [jmp] at hK
          simp only [exitOf, jumpsP]
          split at hK
          · rename_i e
            subst e
            rw [hrest]
            split at hK
            · rename_i hd _
              unfold normK at hK
              obtain ⟨x, hx, hK⟩ := bnd_some hK
              obtain ⟨γ2, I2⟩ := inv_head hT hHd I' hx
              simp only [loopC] at hK
              exact wpIn_wide.1 (wpIn_mono (hc.2 l rest hrest _ x.1 x.2 a' γ2 w' r' hK h1 I2) (n := nn) (ihm))
            · cases hK
          · rename_i hne
            cases hf : findLabel c l with
            | none => exact ⟨h1, .goto l, sl', ob', γ', r', rfl, hK, I'⟩
            | some rest' => exact absurd (hone l (by rw [hf]; simp)) hne
    exact wpIn_wide.2 (wp_scope_rounds N (wpIn_wide.1 (wpIn_mono (hc.1 _ sl ob a γ w r H hs I) (n := nn) (conv N))))
  | label l' =>
    intro nn F hF T hT hY hH
    constructor
    · intro K sl ob a γ w r H hs I
      simp only [den] at H
      exact wpIn_label ⟨hs, .norm, sl, ob, γ, r, rfl, H, I⟩
    · intro l rest hf K sl ob a γ w r H hs I
      simp only [den] at H
      simp only [findLabel] at hf
      split at hf
      · injection hf with hf; subst hf
        split at H
        · exact wpIn_skip ⟨hs, .norm, sl, ob, γ, r, rfl, H, I⟩
        · cases H
      · cases hf
  | goto l =>
    intro nn F hF T hT hY hH
    refine ⟨?_, fun l rest hf => by simp [findLabel] at hf⟩
    intro K sl ob a γ w r H hs I
    simp only [den] at H
    exact wpIn_goto ⟨hs, .goto l, sl, ob, γ, r, rfl, H, I⟩
  | ret =>
    intro nn F hF T hT hY hH
    refine ⟨?_, fun l rest hf => by simp [findLabel] at hf⟩
    intro K sl ob a γ w r H hs I
    simp only [den] at H
    exact wpIn_ret ⟨hs, .ret, sl, ob, γ, r, rfl, H, I⟩
  | refuse s =>
    intro nn F hF T hT hY hH
    exact ⟨fun K sl ob a γ w r H => by simp [den] at H, fun l rest hf => by simp [findLabel] at hf⟩
end
end
end Go.Proofs.YtmhpkdcnhgmblaaDoor
