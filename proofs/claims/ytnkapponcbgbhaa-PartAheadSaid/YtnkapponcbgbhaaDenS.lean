import Derived.Test.YtnkapponcbgbhaaDrawC
set_option linter.all false
namespace Go.Proofs.Ytnkapponcbgbhaa
section
open Go
def YOK (P : Program) (E : Env) (C : Ctx) (F : Fence) (nn M : Nat) (T : KeepT) : Prop :=
  ∀ (o : Oper) (f : Operand) (args : Array Operand), valCall o.op = some (f, args) → (∀ t, o.dst = some t → t < M ∧ t < tslot) → ∀ (sl : SL) (ob : OB) (a : Act) (γ : Gh) (w : World) (r : R) (K' : SL → OB → Option R) (next : Act → World → Prop) (Q : Exit → Act → World → Prop),
    yK ob sl o.dst (ev E sl f) (evs E sl args.toList) K' = some r → a.tmps.size = M → Inv C T r γ w a sl ob →
    (∀ v γ' w' sl' ob' r', K' sl' ob' = some r' → Inv C T r' γ' w' (a.put o.dst v) sl' ob' → next (a.put o.dst v) w') → o.wpIn F nn P a w next Q
def RgT (T : KeepT) : Prop := ∀ C' ds r sl sl' γ w w' tmps ob (Q : Nat → Prop) D, T C' ds r sl → St C' γ w tmps sl ob → Chg Q w w' → (∀ b, b < C'.w0.heap.size → Q b → C'.A b) → (∀ b, b < w.heap.size → Q b → ¬ γ.im b ∧ ¬ ownB γ b) →
  D < w'.heap.size → ¬ ownB γ D → ¬ γ.im D → C'.w0.heap.size ≤ D → w'.heap[D]? = some (.deferred (some [])) → T (C'.re γ w' C'.kp) ({ target := .collected D, args := #[] } :: ds) r sl'
def DenOK (P : Program) (E : Env) (C : Ctx) (Φ : Sem') (N n M : Nat) (c : Code) : Prop :=
  ∀ (nn : Nat) (F : Fence), Wd F → ∀ (T : KeepT), SlotOK E.yp T → (E.yp = true → GoOK C T ∧ YOK P E C F nn M T) → (noHead c = false → F = Fence.wide ∧ HeadOK T ∧ (E.yp = false → RgT T)) →
    (∀ (K : Kont) (sl : SL) (ob : OB) (a : Act) (γ : Gh) (w : World) (r : R), den P E Φ N n c none K sl ob = some r → a.tmps.size = M → Inv C T r γ w a sl ob → c.wpIn F nn P (Post C T M K) a w) ∧
    ∀ (l : Nat) (rest : Code), findLabel c l = some rest → ∀ (K : Kont) (sl : SL) (ob : OB) (a : Act) (γ : Gh) (w : World) (r : R), den P E Φ N n c (some l) K sl ob = some r → a.tmps.size = M → Inv C T r γ w a sl ob → rest.wpIn F nn P (Post C T M K) a w
section
variable {P : Program} {E : Env} {C : Ctx} {F : Fence}
theorem runY (hF : Wd F) {T : KeepT} (hT : SlotOK E.yp T) {Q : Exit → Act → World → Prop} {n N : Nat} (hY : YOK P E C F n N T) (hE : E.fid = C.fid) (hG : E.glob = C.glob) (hro : True) (hrov : E.rov = false) {Φ : Sem'} (hΦ : Sound P C.fid C.glob Φ) (hyp : E.yp = true) (ops : Array Oper) (hd : ∀ o ∈ ops.toList, ∀ t, o.dst = some t → t < N ∧ (E.yp = true → t < tslot)) {K : SL → OB → Option R}
    (hQ : ∀ a' γ' w' sl' ob' r', K sl' ob' = some r' → a'.tmps.size = N → Inv C T r' γ' w' a' sl' ob' → Q .normal a' w') :
    ∀ (l : List Nat) (os : List Oper) (a : Act) (γ : Gh) (w : World) (sl : SL) (ob : OB) (r : R), l.map (ops[·]?) = os.map some → denOpsY P E Φ ops K os sl ob = some r → a.tmps.size = N → Inv C T r γ w a sl ob → wpOpsIn F n P ops Q l a w
  | [], os, a, γ, w, sl, ob, r, hl, H, hs, I => by
    cases os with
    | nil => simp only [denOpsY] at H; exact hQ a γ w sl ob r H hs I
    | cons o r => simp at hl
  | i :: l, os, a, γ, w, sl, ob, r, hl, H, hs, I => by
    cases os with
    | nil => simp at hl
    | cons o rest =>
      simp only [List.map_cons, List.cons.injEq] at hl
      obtain ⟨hi, hl⟩ := hl
      have hmem : o ∈ ops.toList := by
        rw [Array.mem_toList_iff]; exact Array.mem_of_getElem? hi
      have hd1 := hd o hmem
      simp only [wpOpsIn, hi]
      simp only [denOpsY] at H
      have skip : ∀ (b : Bool), wantA ops o sl = some b → b = false → denOpsY P E Φ ops K rest (putS o.dst (.tup []) sl) ob = some r → ¬ Region.wanted o (yielded ops a.tmps) = true ∧ wpOpsIn F n P ops Q l (a.put o.dst undef) w := by
        intro b hw hb H'
        subst hb
        obtain ⟨C', hf, hg, hTT, S⟩ := I
        refine ⟨by rw [want_ok S hw]; simp, ?_⟩
        have hT2 : T C' a.defers r (putS o.dst (.tup []) sl) := by
          refine hT _ _ _ _ _ (fun hy k m h => ?_) hTT
          cases hdst : o.dst with
          | none => rw [hdst] at h; exact h
          | some t =>
            rw [hdst] at h
            simp only [putS, getS_cons] at h
            rw [if_neg (fun e => by subst e; exact Nat.lt_irrefl _ ((hd1 _ hdst).2 hy))] at h
            exact h
        have hdf : (a.put o.dst undef).defers = a.defers := by cases o.dst <;> rfl
        exact runY hF hT hY hE hG hro hrov hΦ hyp ops hd hQ l rest _ γ w _ ob r hl H' (by rw [put_size]; exact hs) ⟨C', hf, hg, by rw [hdf]; exact hT2, put_st S (fun t ht => by rw [hs]; exact (hd1 t ht).1) (RV_tup.2 ⟨#[], rfl, rfl, by simp only [RL]⟩)⟩
      have doit : ∀ (f : Operand) (args : Array Operand), valCall o.op = some (f, args) → wantA ops o sl = some true → yK ob sl o.dst (ev E sl f) (evs E sl args.toList) (denOpsY P E Φ ops K rest) = some r → Region.wanted o (yielded ops a.tmps) = true ∧ o.wpIn F n P a w (fun a w => wpOpsIn F n P ops Q l a w) Q := by
        intro f args hv hw H'
        obtain ⟨C', hf, hg, hTT, S⟩ := I
        refine ⟨want_ok S hw, ?_⟩
        exact hY o f args hv (fun t ht => ⟨(hd1 t ht).1, (hd1 t ht).2 hyp⟩) sl ob a γ w r _ _ Q H' hs ⟨C', hf, hg, hTT, S⟩ (fun v γ' w' sl' ob' r' hK I' => runY hF hT hY hE hG hro hrov hΦ hyp ops hd hQ l rest _ γ' w' sl' ob' r' hl hK (by rw [put_size]; exact hs) I')
      split at H
      · rename_i f args hv
        split at H
        · rename_i hg
          obtain ⟨h1, h2⟩ := doit f args hv (by unfold wantA; rw [hg]) H
          rw [if_pos h1]; exact h2
        · rename_i j wt hg
          split at H
          · cases H
          · rename_i t ht
            split at H
            · rename_i c hc
              split at H
              · rename_i e
                subst e
                obtain ⟨h1, h2⟩ := doit f args hv (by unfold wantA; simp [hg, ht, hc]) H
                rw [if_pos h1]; exact h2
              · rename_i e
                obtain ⟨h1, h2⟩ := skip (c == wt) (by unfold wantA; simp [hg, ht, hc]) (by simpa using e) H
                rw [if_neg h1]; exact ⟨fun f _ => hF.fn f, h2⟩
            · rename_i hc
              obtain ⟨h1, h2⟩ := skip false (by unfold wantA; simp [hg, ht, hc]) rfl H
              rw [if_neg h1]; exact ⟨fun f _ => hF.fn f, h2⟩
            · cases H
      · obtain ⟨x1, h2, H⟩ := denI_step H
        have := op_wpInF (n := n) hF hT hE hG hro hrov hΦ hd1 (x := (sl, ob)) hs I h2 (next := fun a w => wpOpsIn F n P ops Q l a w) (Q := Q) (fun a' γ' w' h1 h2 => runY hF hT hY hE hG hro hrov hΦ hyp ops hd hQ l rest a' γ' w' x1.1 x1.2 r hl H h1 h2)
        split
        · rename_i h1; rw [if_pos h1] at this; exact this
        · rename_i h1; rw [if_neg h1] at this; exact ⟨fun f _ => hF.fn f, this⟩
theorem St.tsl {γ : Gh} {w : World} {tmps : Array Value} {sl : SL} {ob : OB} (S : St C γ w tmps sl ob) {v : PV} (h : ∀ x, RV C.fid γ w.heap x v) : St C γ w tmps ((tslot, v) :: sl) ob :=
  S.slots fun t => by
    rw [getS_cons]
    split
    · exact h _
    · exact S.slot t
theorem goStop_some {G S : Option R} {r : R} (h : goStop G S = some r) : G = some r ∧ ∃ r', S = some r' := by
  unfold goStop at h
  split at h
  · exact ⟨h, _, rfl⟩
  · cases h
theorem brGo_some {n : Nat} {A B : SL → OB → Option R} {sl : SL} {ob : OB} {v : PV} {x : Option Obj'} {r : R} (h : brGo n A B sl ob v x = some r) : v = .y 1 n 1 ∧ (∃ x', x = some x' ∧ x'.ver = n) ∧ A ((tslot, .y 1 n 0) :: sl) ob = some r ∧ ∃ r', B sl ob = some r' := by
  unfold brGo at h
  split at h
  · split at h
    · rename_i hc
      obtain ⟨rfl, hv⟩ := hc
      obtain ⟨h1, h2⟩ := goStop_some h
      exact ⟨rfl, ⟨_, rfl, hv⟩, h1, h2⟩
    · cases h
  · cases h
end
end
section
open Go
section
variable {P : Program} {E : Env} {C : Ctx}
theorem inv_eqs {T : KeepT} {r : R} {γ : Gh} {w : World} {a : Act} {sl : SL} {ob : OB} (hE : E.fid = C.fid) (hG : E.glob = C.glob) (I : Inv C T r γ w a sl ob) (c : Operand) : RV C.fid γ w.heap (a.eval c) (ev E sl c) := by
  obtain ⟨C', hf, hg, _, S⟩ := I
  rw [← hf]
  exact ev_ok (by rw [hE, hf]) (by rw [hG, hg]) S c
theorem brY_ok (hE : E.fid = C.fid) (hG : E.glob = C.glob) {T : KeepT} (hGo : GoOK C T) {A B : SL → OB → Option R} {sl : SL} {ob : OB} {r : R} {γ : Gh} {w : World} {a : Act} {c : Operand} (H : brY (ev E sl c) A B sl ob = some r) (I : Inv C T r γ w a sl ob) :
    (a.eval c = .bool true ∧ ∃ sl' r', A sl' ob = some r' ∧ Inv C T r' γ w a sl' ob) ∨ (a.eval c = .bool false ∧ ∃ sl' r', B sl' ob = some r' ∧ Inv C T r' γ w a sl' ob) := by
  have hv := inv_eqs hE hG I c
  obtain ⟨C', hf, hg, hTT, S⟩ := I
  have look : ∀ n, getS sl tslot = .y 1 n 1 → (∃ x', getO ob 1 = some x' ∧ x'.ver = n) → ∃ i, γ.mu 1 = some i ∧ i.ver = n := by
    rintro n _ ⟨x', hx, hv⟩
    obtain ⟨i, h1, h2, _⟩ := S.obj 1 x' hx
    exact ⟨i, h1, by rw [← h2, hv]⟩
  have goes : ∀ n i, getS sl tslot = .y 1 n 1 → γ.mu 1 = some i → i.ver = n → i.w = 0 → Inv C T r γ w a ((tslot, .y 1 n 0) :: sl) ob := by
    intro n i h1 h2 h3 h4
    refine ⟨C', hf, hg, hGo.go _ _ _ _ _ _ _ _ n i S hTT h1 h2 h3 h4, S.tsl fun x => ?_⟩
    simp only [RV, RAt]
    exact ⟨i, h2, by omega, fun _ => h4⟩
  have stops : ∀ n i r', getS sl tslot = .y 1 n 1 → γ.mu 1 = some i → i.ver = n → i.w ≠ 0 → Inv C T r' γ w a sl ob := fun n i r' h1 h2 h3 h4 => ⟨C', hf, hg, hGo.stop _ _ _ r' _ _ _ _ _ n i S hTT h1 h2 h3 h4, S⟩
  unfold brY at H
  split at H
  · rename_i n hc
    obtain ⟨h1, h2, h3, r', h4⟩ := brGo_some H
    obtain ⟨i, hi, hin⟩ := look n h1 h2
    rw [hc] at hv
    simp only [RV, RAt] at hv
    obtain ⟨i', hi', _, x, hx, hw⟩ := hv
    rw [hi] at hi'
    injection hi' with hi'
    subst hi'
    have hx' : a.eval c = .bool x := by simpa using hx
    have hw' := hw hin.symm
    by_cases h0 : i.w = 0
    · refine .inl ⟨by rw [hx', hw', h0]; rfl, _, _, h3, goes n i h1 hi hin h0⟩
    · refine .inr ⟨by rw [hx', hw']; simpa using h0, _, _, h4, stops n i r' h1 hi hin h0⟩
  · rename_i n hc
    obtain ⟨h1, h2, h3, r', h4⟩ := brGo_some H
    obtain ⟨i, hi, hin⟩ := look n h1 h2
    rw [hc] at hv
    simp only [RV, RAt] at hv
    obtain ⟨i', hi', _, x, hx, hw⟩ := hv
    rw [hi] at hi'
    injection hi' with hi'
    subst hi'
    have hx' : a.eval c = .bool x := by simpa using hx
    have hw' := hw hin.symm
    by_cases h0 : i.w = 0
    · refine .inr ⟨by rw [hx', hw', h0]; rfl, _, _, h3, goes n i h1 hi hin h0⟩
    · refine .inl ⟨by rw [hx', hw']; simpa using h0, _, _, h4, stops n i r' h1 hi hin h0⟩
  · unfold br at H
    split at H
    · rename_i b hc
      rw [hc, RV_b] at hv
      cases b with
      | true => exact .inl ⟨hv, sl, r, by simpa using H, C', hf, hg, hTT, S⟩
      | false => exact .inr ⟨hv, sl, r, by simpa using H, C', hf, hg, hTT, S⟩
    · rename_i hc
      obtain ⟨h1, h2⟩ := agree_ok H
      rw [hc, RV_ub] at hv
      obtain ⟨b, hv⟩ := hv
      cases b with
      | true => exact .inl ⟨hv, sl, r, h1, C', hf, hg, hTT, S⟩
      | false => exact .inr ⟨hv, sl, r, h2, C', hf, hg, hTT, S⟩
    · cases H
theorem br_ok (hE : E.fid = C.fid) (hG : E.glob = C.glob) {T : KeepT} {x y : Option R} {sl : SL} {ob : OB} {r : R} {γ : Gh} {w : World} {a : Act} {c : Operand} (H : br (ev E sl c) x y = some r) (I : Inv C T r γ w a sl ob) :
    (a.eval c = .bool true ∧ x = some r) ∨ (a.eval c = .bool false ∧ y = some r) := by
  have hv := inv_eqs hE hG I c
  unfold br at H
  split at H
  · rename_i b hc
    rw [hc, RV_b] at hv
    cases b with
    | true => exact .inl ⟨hv, by simpa using H⟩
    | false => exact .inr ⟨hv, by simpa using H⟩
  · rename_i hc
    obtain ⟨h1, h2⟩ := agree_ok H
    rw [hc, RV_ub] at hv
    obtain ⟨b, hv⟩ := hv
    cases b with
    | true => exact .inl ⟨hv, h1⟩
    | false => exact .inr ⟨hv, h2⟩
  · cases H
theorem den_sound (hE : E.fid = C.fid) (hG : E.glob = C.glob) (hro : True) (hrov : E.rov = false) {Φ : Sem'} (hΦ : Sound P C.fid C.glob Φ) {N n M : Nat} (hM : n ≤ M) (hts : E.yp = true → n ≤ tslot)
    (hRg : ∀ f ps as c, DenOK P E C Φ N n M as → DenOK P E C Φ N n M c → DenOK P E C Φ N n M (.rangeFunc f ps as c)) : ∀ (c : Code), DenOK P E C Φ N n M c := by
  intro c
  induction c with
  | skip =>
    intro nn F hF T hT hY hH
    refine ⟨?_, fun l rest hf => by simp [findLabel] at hf⟩
    intro K sl ob a γ w r H hs I
    simp only [den] at H
    exact wpIn_skip ⟨hs, .norm, sl, ob, γ, r, rfl, H, I⟩
  | region id ops draw =>
    intro nn F hF T hT hY hH
    refine ⟨?_, fun l rest hf => by simp [findLabel] at hf⟩
    intro K sl ob a γ w r H hs I
    simp only [den] at H
    split at H
    · rename_i hall
      have hd : ∀ o ∈ ops.toList, ∀ t, o.dst = some t → t < M ∧ (E.yp = true → t < tslot) := by
        intro o ho t ht
        rw [← Array.all_toList] at hall
        have := List.all_eq_true.1 hall o ho
        rw [ht] at this
        have h1 : t < n := by simpa using this
        exact ⟨Nat.lt_of_lt_of_le h1 hM, fun hy => Nat.lt_of_lt_of_le h1 (hts hy)⟩
      have hrange : (List.range ops.size).map (ops[·]?) = ops.toList.map some := by
        apply List.ext_getElem?
        intro j
        rw [List.getElem?_map, List.getElem?_map]
        by_cases hj : j < ops.size
        · rw [List.getElem?_range hj]; simp [hj]
        · rw [List.getElem?_eq_none (by simp; omega), List.getElem?_eq_none (by simp; omega)]; rfl
      cases draw with
      | false =>
        simp only at H
        split at H
        · rename_i hc
          exact wpIn_region (runY hF hT (hY hc.1).2 hE hG hro hrov hΦ hc.1 ops hd (fun a' γ' w' sl' ob' r' h1 h2 h3 => ⟨h2, .norm, sl', ob', γ', r', rfl, h1, h3⟩) _ _ a γ w sl ob r hrange H hs I)
        · obtain ⟨y, h1, h2⟩ := denOps_run H
          exact wpIn_region (run_wpInF hF hT hE hG hro hrov hΦ ops hd (List.range ops.size) ops.toList a γ w (sl, ob) y hrange hs I h1 (fun a' γ' w' h3 h4 => ⟨h3, .norm, y.1, y.2, γ', r, rfl, h2, h4⟩))
      | true =>
        simp only at H
        split at H
        · rename_i ho
          exact draw_ok hE hG hro hrov hΦ hF hT hd ho H hs I
        · cases H
    · cases H
  | seq x y ihx ihy =>
    intro nn F hF T hT hY hH
    have hx := ihx nn F hF T hT hY (fun h => hH (by simp [noHead, h]))
    have hy := ihy nn F hF T hT hY (fun h => hH (by simp [noHead, h]))
    have both : ∀ (K : Kont) (x' : Code) (a : Act) (w : World), x'.wpIn F nn P (Post C T M (thenK (den P E Φ N n y none K) K)) a w → (Code.seq x' y).wpIn F nn P (Post C T M K) a w := by
      intro K x' a w h
      refine wpIn_seq (wpIn_mono h ?_)
      rintro e a' w' ⟨h1, o, sl', ob', γ', r', he, hK, I'⟩
      cases o with
      | norm => subst he; exact hy.1 K sl' ob' a' γ' w' r' hK h1 I'
      | exit id => subst he; exact ⟨h1, .exit id, sl', ob', γ', r', rfl, hK, I'⟩
      | goto l => subst he; exact ⟨h1, .goto l, sl', ob', γ', r', rfl, hK, I'⟩
      | ret => subst he; exact ⟨h1, .ret, sl', ob', γ', r', rfl, hK, I'⟩
    constructor
    · intro K sl ob a γ w r H hs I
      simp only [den] at H
      exact both K x a w (hx.1 _ sl ob a γ w r H hs I)
    · intro l rest hf K sl ob a γ w r H hs I
      simp only [den, hasLabel_find] at H
      simp only [findLabel] at hf
      cases hx' : findLabel x l with
      | some rx =>
        rw [hx'] at hf H
        injection hf with hf; subst hf
        exact both K rx a w (hx.2 l rx hx' _ sl ob a γ w r (by simpa using H) hs I)
      | none =>
        rw [hx'] at hf H
        exact hy.2 l rest hf K sl ob a γ w r (by simpa using H) hs I
  | cond c x y ihx ihy =>
    intro nn F hF T hT hY hH
    have hx := ihx nn F hF T hT hY (fun h => hH (by simp [noHead, h]))
    have hy := ihy nn F hF T hT hY (fun h => hH (by simp [noHead, h]))
    refine ⟨?_, fun l rest hf => by simp [findLabel] at hf⟩
    intro K sl ob a γ w r H hs I
    simp only [den] at H
    split at H
    · rename_i hyp
      rcases brY_ok hE hG (hY hyp).1 H I with ⟨h1, sl', r', h2, h3⟩ | ⟨h1, sl', r', h2, h3⟩
      · exact wpIn_cond_true h1 (hx.1 K sl' ob a γ w r' h2 hs h3)
      · exact wpIn_cond_false h1 (hy.1 K sl' ob a γ w r' h2 hs h3)
    · rcases br_ok hE hG H I with ⟨h1, h2⟩ | ⟨h1, h2⟩
      · exact wpIn_cond_true h1 (hx.1 K sl ob a γ w r h2 hs I)
      · exact wpIn_cond_false h1 (hy.1 K sl ob a γ w r h2 hs I)
  | block id c ih =>
    intro nn F hF T hT hY hH
    have hc := ih nn F hF T hT hY (fun h => hH (by simpa [noHead] using h))
    refine ⟨?_, fun l rest hf => by simp [findLabel] at hf⟩
    intro K sl ob a γ w r H hs I
    simp only [den] at H
    refine wpIn_block (wpIn_mono (hc.1 _ sl ob a γ w r H hs I) ?_)
    rintro e a' w' ⟨h1, o, sl', ob', γ', r', he, hK, I'⟩
    subst he
    cases o with
    | norm => exact ⟨h1, .norm, sl', ob', γ', r', rfl, hK, I'⟩
    | exit id' =>
      simp only [inBlk] at hK
      simp only [exitOf, Exit.inBlock]
      split at hK
      · rename_i e
        rw [if_pos e]; exact ⟨h1, .norm, sl', ob', γ', r', rfl, hK, I'⟩
      · rename_i e
        rw [if_neg e]; exact ⟨h1, .exit id', sl', ob', γ', r', rfl, hK, I'⟩
    | goto l => exact ⟨h1, .goto l, sl', ob', γ', r', rfl, hK, I'⟩
    | ret => exact ⟨h1, .ret, sl', ob', γ', r', rfl, hK, I'⟩
  | loop c ih =>
    intro nn F hF T hT hY hH
    obtain ⟨rfl, hHd, hRt⟩ := hH rfl
    have hc := ih nn Fence.wide hF T hT hY (fun _ => ⟨rfl, hHd, hRt⟩)
    refine ⟨?_, fun l rest hf => by simp [findLabel] at hf⟩
    intro K sl ob a γ w r H hs I
    simp only [den] at H
    split at H
    · cases H
    · rename_i hd hann
      unfold normK at H
      obtain ⟨x, hx, H⟩ := bnd_some H
      obtain ⟨γ1, I1⟩ := inv_head hT hHd I hx
      have key : ∀ m (x : SL × OB) (a : Act) (γ : Gh) (w : World) (r : R), loopC (fun g => den P E Φ N n c none (thenK (fun sl ob => bnd (headH hd sl ob) fun x => g x.1 x.2) K)) m x.1 x.2 = some r → a.tmps.size = M → Inv C T r γ w a x.1 x.2 →
          Code.roundsIn Fence.wide nn P c (Post C T M K) m a w := by
        intro m
        induction m with
        | zero => intro x a γ w r H; simp [loopC] at H
        | succ m ihm =>
          intro x a γ w r H hs I
          simp only [loopC] at H
          rw [roundsIn_succ]
          refine wpIn_mono (hc.1 _ x.1 x.2 a γ w r H hs I) ?_
          rintro e a' w' ⟨h1, o, sl', ob', γ', r', he, hK, I'⟩
          subst he
          cases o with
          | norm =>
            simp only [thenK] at hK
            obtain ⟨y, hy, hK⟩ := bnd_some hK
            obtain ⟨γ2, I2⟩ := inv_head hT hHd I' hy
            exact ihm y a' γ2 w' r' hK h1 I2
          | exit id => exact ⟨h1, .exit id, sl', ob', γ', r', rfl, hK, I'⟩
          | goto l => exact ⟨h1, .goto l, sl', ob', γ', r', rfl, hK, I'⟩
          | ret => exact ⟨h1, .ret, sl', ob', γ', r', rfl, hK, I'⟩
      exact wpIn_loop_rounds N (key N x a γ1 w r H hs I1)
  | rangeFunc f ps x y ihx ihy => exact hRg f ps x y ihx ihy
  | exit id =>
    intro nn F hF T hT hY hH
    refine ⟨?_, fun l rest hf => by simp [findLabel] at hf⟩
    intro K sl ob a γ w r H hs I
    simp only [den] at H
    exact wpIn_exit ⟨hs, .exit id, sl, ob, γ, r, rfl, H, I⟩
  | scope c ih =>
    intro nn F hF T hT hY hH
    obtain ⟨rfl, hHd, hRt⟩ := hH rfl
    have hc := ih nn Fence.wide hF T hT hY (fun _ => ⟨rfl, hHd, hRt⟩)
    refine ⟨?_, fun l rest hf => by simp [findLabel] at hf⟩
    intro K sl ob a γ w r H hs I
    simp only [den] at H
    split at H
    case h_2 => cases H
    rename_i l0 hl0
    have hone : ∀ l, findLabel c l ≠ none → l = l0 := by
      intro l hl
      have : hasLabel l c = true := by rw [hasLabel_find]; cases hf : findLabel c l <;> simp_all
      have := labsOf_has this
      rw [hl0] at this
      simpa using this
    obtain ⟨rest, hrest⟩ : ∃ rest, findLabel c l0 = some rest := by
      have : hasLabel l0 c = true := has_labsOf (by rw [hl0]; simp)
      rw [hasLabel_find] at this
      exact Option.isSome_iff_exists.1 this
    have conv : ∀ m e a w, Post C T M (jmp E l0 (loopC (fun g => den P E Φ N n c (some l0) (jmp E l0 g K)) m) K) e a w → jumpsP P c (Post C T M K) m e a w := by
      intro m
      induction m with
      | zero =>
        rintro e a' w' ⟨h1, o, sl', ob', γ', r', he, hK, I'⟩
        subst he
        cases o with
        | norm => exact ⟨h1, .norm, sl', ob', γ', r', rfl, hK, I'⟩
        | exit id => exact ⟨h1, .exit id, sl', ob', γ', r', rfl, hK, I'⟩
        | ret => exact ⟨h1, .ret, sl', ob', γ', r', rfl, hK, I'⟩
        | goto l =>
          simp only [jmp] at hK
          simp only [exitOf, jumpsP]
          split at hK
          · split at hK
            · unfold normK at hK
              obtain ⟨x, hx, hK⟩ := bnd_some hK
              simp [loopC] at hK
            · cases hK
          · rename_i hne
            cases hf : findLabel c l with
            | none => exact ⟨h1, .goto l, sl', ob', γ', r', rfl, hK, I'⟩
            | some rest' => exact absurd (hone l (by rw [hf]; simp)) hne
      | succ m ihm =>
        rintro e a' w' ⟨h1, o, sl', ob', γ', r', he, hK, I'⟩
        subst he
        cases o with
        | norm => exact ⟨h1, .norm, sl', ob', γ', r', rfl, hK, I'⟩
        | exit id => exact ⟨h1, .exit id, sl', ob', γ', r', rfl, hK, I'⟩
        | ret => exact ⟨h1, .ret, sl', ob', γ', r', rfl, hK, I'⟩
        | goto l =>
          simp only [jmp] at hK
          simp only [exitOf, jumpsP]
          split at hK
          · rename_i e
            subst e
            rw [hrest]
            split at hK
            · rename_i hd _
              unfold normK at hK
              obtain ⟨x, hx, hK⟩ := bnd_some hK
              obtain ⟨γ2, I2⟩ := inv_head hT hHd I' hx
              simp only [loopC] at hK
              exact wpIn_wide.1 (wpIn_mono (hc.2 l rest hrest _ x.1 x.2 a' γ2 w' r' hK h1 I2) (n := nn) (ihm))
            · cases hK
          · rename_i hne
            cases hf : findLabel c l with
            | none => exact ⟨h1, .goto l, sl', ob', γ', r', rfl, hK, I'⟩
            | some rest' => exact absurd (hone l (by rw [hf]; simp)) hne
    exact wpIn_wide.2 (wp_scope_rounds N (wpIn_wide.1 (wpIn_mono (hc.1 _ sl ob a γ w r H hs I) (n := nn) (conv N))))
  | label l' =>
    intro nn F hF T hT hY hH
    constructor
    · intro K sl ob a γ w r H hs I
      simp only [den] at H
      exact wpIn_label ⟨hs, .norm, sl, ob, γ, r, rfl, H, I⟩
    · intro l rest hf K sl ob a γ w r H hs I
      simp only [den] at H
      simp only [findLabel] at hf
      split at hf
      · injection hf with hf; subst hf
        split at H
        · exact wpIn_skip ⟨hs, .norm, sl, ob, γ, r, rfl, H, I⟩
        · cases H
      · cases hf
  | goto l =>
    intro nn F hF T hT hY hH
    refine ⟨?_, fun l rest hf => by simp [findLabel] at hf⟩
    intro K sl ob a γ w r H hs I
    simp only [den] at H
    exact wpIn_goto ⟨hs, .goto l, sl, ob, γ, r, rfl, H, I⟩
  | ret =>
    intro nn F hF T hT hY hH
    refine ⟨?_, fun l rest hf => by simp [findLabel] at hf⟩
    intro K sl ob a γ w r H hs I
    simp only [den] at H
    exact wpIn_ret ⟨hs, .ret, sl, ob, γ, r, rfl, H, I⟩
  | refuse s =>
    intro nn F hF T hT hY hH
    exact ⟨fun K sl ob a γ w r H => by simp [den] at H, fun l rest hf => by simp [findLabel] at hf⟩
end
end
section
open Go
structure Rnd (P : Program) (fid : Nat → Nat) (xs : List (List PV)) (l nn : Nat) where
  J : List (List PV) → (Nat → Prop) → (Nat → Prop) → World → Prop
  Jx : (Nat → Prop) → (Nat → Prop) → World → Prop
  IM : Nat → Prop
  stab : ∀ pre CH PR W W', J pre CH PR W → Chg (fun b => ¬ PR b) W W' → J pre CH PR W'
  stabx : ∀ CH PR W W', Jx CH PR W → Chg (fun b => ¬ PR b) W W' → Jx CH PR W'
  round : ∀ pre x rest CH PR W (γ : Gh) vals, pre ++ x :: rest = xs → J pre CH PR W → RL fid γ W.heap vals 0 x → vals.size = x.length → x.all okT = true → (∀ b, γ.im b → b < W.heap.size ∧ ¬ CH b ∧ IM b) →
    YieldAt Fence.wide nn P l vals W fun e w' => ∃ CH' PR', (∀ b, CH' b → CH b ∨ W.heap.size ≤ b) ∧ (∀ b, PR' b → (PR b ∨ γ.im b ∨ W.heap.size ≤ b) ∧ b < w'.heap.size) ∧ (∀ b, CH' b → PR' b) ∧ Chg CH W w' ∧
      ((e = .returned (.bool true) ∧ J (pre ++ [x]) CH' PR' w') ∨ (e = .returned (.bool false) ∧ Jx CH' PR' w'))
def TI {P : Program} {fid : Nat → Nat} {xs : List (List PV)} {l nn : Nat} (Z : Rnd P fid xs l nn) : KeepT := fun C' ds r sl =>
  ds = [] ∧ (∀ k, C'.kp k ↔ k < 64) ∧ (∃ i, C'.g0.mu 0 = some i ∧ i.ver = 0 ∧ i.w = l) ∧ ∃ i0, C'.g0.mu 1 = some i0 ∧ (i0.blk = none ∧ i0.tot = 0) ∧ (∀ n m, getS sl tslot = .y 1 n m → n = i0.ver) ∧
    ∃ CH PR, (∀ b, PR b → b < C'.w0.heap.size ∧ ¬ C'.A b) ∧ (∀ b, CH b → PR b ∧ ¬ C'.g0.im b) ∧ (∀ b, C'.g0.im b ∨ C'.A b ∨ C'.w0.heap.size ≤ b → Z.IM b) ∧
      ((i0.w = 0 ∧ ∃ pre rest g out, Z.J pre CH PR C'.w0 ∧ r = (.tup [.un, .l g rest], out) ∧ pre ++ rest = xs) ∨ (i0.w ≠ 0 ∧ Z.Jx CH PR C'.w0))
section
variable {P : Program} {E : Env} {C : Ctx} {xs : List (List PV)} {l nn : Nat}
theorem TI_slot (Z : Rnd P C.fid xs l nn) (hyp : E.yp = true) : SlotOK E.yp (TI Z) := by
  rintro C' ds r sl sl' h ⟨h1, h2, h3, i0, h4, h5, h6, h7⟩
  exact ⟨h1, h2, h3, i0, h4, h5, fun n m e => h6 n m (h hyp n m e), h7⟩
theorem TI_head (Z : Rnd P C.fid xs l nn) : HeadOK (TI Z) := fun C' ds r sl h k hk => (h.2.1 k).1 hk
theorem TI_i0 {C' : Ctx} {γ : Gh} {w : World} {tmps : Array Value} {sl : SL} {ob : OB} (S : St C' γ w tmps sl ob) (hkp : ∀ k, C'.kp k ↔ k < 64) {k : Nat} (hk : k < 64) {i i0 : HI} (h0 : C'.g0.mu k = some i0) (h1 : γ.mu k = some i) (hv : i.ver = i0.ver) : i = i0 := by
  obtain ⟨i', h2, h3⟩ := S.kept k i0 ((hkp k).2 hk) h0
  rw [h1] at h2
  injection h2 with h2
  subst h2
  rcases h3 with h3 | h3
  · exact h3
  · omega
theorem TI_go (Z : Rnd P C.fid xs l nn) : GoOK C (TI Z) := by
  constructor
  · rintro C' ds r sl γ w tmps ob n i S ⟨h1, h2, h3, i0, h4, h5, h6, h7⟩ hs hi hin hw
    refine ⟨h1, h2, h3, i0, h4, h5, fun n' m e => ?_, h7⟩
    simp only [getS_cons, if_true] at e
    injection e with _ e _
    rw [← e]; exact h6 n 1 hs
  · rintro C' ds r r' sl γ w tmps ob n i S ⟨h1, h2, h3, i0, h4, h5, h6, CH, PR, h7, h8, h9, h10⟩ hs hi hin hw
    have hn := h6 n 1 hs
    have e := TI_i0 S h2 (by omega) h4 hi (by rw [hin, hn])
    subst e
    refine ⟨h1, h2, h3, i, h4, h5, h6, CH, PR, h7, h8, h9, .inr ⟨hw, ?_⟩⟩
    rcases h10 with ⟨h, _⟩ | ⟨_, h⟩
    · exact absurd h hw
    · exact h
theorem consR_some {x : List PV} {y : Option R} {r : R} (h : consR x y = some r) : ∃ g rest out, y = some (.tup [.un, .l g rest], out) ∧ r = (.tup [.un, .l g (x :: rest)], out) := by
  unfold consR at h
  split at h
  · injection h with h; exact ⟨_, _, _, rfl, h.symm⟩
  · cases h
theorem warm_ok {ob : OB} (h : warm ob = true) {o : Nat} {x : Obj'} (hx : getO ob o = some x) : x.fro = false := by
  have := List.all_eq_true.1 h o (keysO_mem.2 ⟨x, hx⟩)
  rw [hx] at this
  simpa using this
theorem TI_y (hE : E.fid = C.fid) (hG : E.glob = C.glob) (Z : Rnd P C.fid xs l (nn - 1)) {M : Nat} : YOK P E C Fence.wide nn M (TI Z) := by
  intro o f args hv hdst sl ob a γ w r K' next Q H hs I hn
  obtain ⟨C', hf, hg, ⟨t1, t2, ⟨il, t3, t3v, t3w⟩, i0, t4, ⟨t5b, t5t⟩, t6, CH, PR, t7, t8, t9, t10⟩, S⟩ := I
  obtain ⟨tt, tys, hop, hfe⟩ : ∃ tt tys, o.op = .call { callee := .value (.tmp tt), args := args, argTypes := tys } ∧ f = .tmp tt := by
    unfold valCall at hv
    split at hv
    · rename_i h
      simp only [Option.some.injEq, Prod.mk.injEq] at hv
      obtain ⟨e1, e2⟩ := hv
      subst e1; subst e2
      exact ⟨_, _, h, rfl⟩
    · cases hv
  unfold yK at H
  unfold yGet at H
  split at H
  · rename_i n x0 x hfv hsv hx0 hx
    split at H
    · rename_i hc
      obtain ⟨hv0, hvn⟩ := hc
      unfold yGo at H
      split at H
      · rename_i as hre
        split at H
        · rename_i hc
          obtain ⟨hokT, hwarm⟩ := hc
          obtain ⟨g, rest', out, hK, hr⟩ := consR_some H
          obtain ⟨j, hj, hjo⟩ := S.obj 0 x0 hx0
          obtain ⟨i, hi, hio⟩ := S.obj 1 x hx
          have hjv : j.ver = 0 := by rw [← hjo.1, hv0]
          have hiv : i.ver = n := by rw [← hio.1, hvn]
          have ej := TI_i0 S t2 (by omega) t3 hj (by rw [hjv, t3v])
          have hn0 := t6 n 0 hsv
          have ei := TI_i0 S t2 (by omega) t4 hi (by rw [hiv, hn0])
          subst ej; subst ei
          have hw0 : i.w = 0 := by
            have := S.slot tslot
            rw [hsv] at this
            simp only [RV, RAt] at this
            obtain ⟨i', hi', _, h⟩ := this
            rw [hi] at hi'
            injection hi' with hi'
            subst hi'
            exact h hiv.symm
          obtain ⟨pre, rest, g0, out0, hJ, hr0, hpre⟩ : ∃ pre rest g out, Z.J pre CH PR C'.w0 ∧ r = (.tup [.un, .l g rest], out) ∧ pre ++ rest = xs := by
            rcases t10 with ⟨_, h⟩ | ⟨h, _⟩
            · exact h
            · exact absurd hw0 h
          rw [hr] at hr0
          simp only [Prod.mk.injEq, PV.tup.injEq, List.cons.injEq, PV.l.injEq, true_and, and_true] at hr0
          obtain ⟨⟨rfl, rfl⟩, rfl⟩ := hr0
          have hJw : Z.J pre CH PR w := Z.stab _ _ _ _ _ hJ ⟨S.chg.os, S.chg.tape, S.chg.output, S.chg.size, fun k hk hA => S.chg.block k hk (fun h => by
            have hp : PR k := Classical.byContradiction hA
            rcases h with h | h
            · exact (t7 k hp).2 h
            · omega)⟩
          have hargs : RL C'.fid γ w.heap (args.map a.eval) 0 (evs E sl args.toList) := evs_ok' (by rw [hE, hf]) (by rw [hG, hg]) S args
          have hlen : (evs E sl args.toList).length = args.size := by rw [evs_len]; simp
          obtain ⟨hRL, hasl⟩ := reifies_ok S hre (γ' := γ) ⟨fun _ _ h => h, fun _ _ h => h, fun o i b ho => by simp at ho⟩ hargs
          have him : ∀ b, γ.im b → b < w.heap.size ∧ ¬ CH b ∧ Z.IM b := by
            intro b hb
            refine ⟨S.lt b hb, fun hch => ?_, ?_⟩
            · obtain ⟨h1, h2⟩ := t8 b hch
              obtain ⟨h3, h4⟩ := t7 b h1
              rcases S.imn b hb with h | h | h
              · exact h2 h
              · exact h4 h
              · omega
            · rcases S.imn b hb with h | h | h
              · exact t9 b (.inl h)
              · exact t9 b (.inr (.inl h))
              · exact t9 b (.inr (.inr h))
          have hown : ∀ b, PR b → ¬ ownB γ b := by
            rintro b hb ⟨o, i, h1, h2⟩
            obtain ⟨h3, h4⟩ := t7 b hb
            rcases S.own o i b h1 h2 with h | h
            · exact h4 h
            · omega
          obtain ⟨fn, tm, as', bd, hy, hround⟩ := Z.round pre as rest' CH PR w γ (args.map a.eval) hpre hJw (by rw [← hf]; exact hRL) (by rw [Array.size_map, ← hlen, hasl]) hokT him
          have hfval : ∃ k, a.eval f = .func (.yield k) #[] #[] ∧ k = l := by
            have := ev_ok (by rw [hE, hf]) (by rw [hG, hg]) S f
            rw [hfv] at this
            simp only [RV, RAt] at this
            obtain ⟨j', hj', _, h⟩ := this
            rw [hj] at hj'
            injection hj' with hj'
            subst hj'
            obtain ⟨k, hk, hw⟩ := h
            exact ⟨k, by simpa using hk, by rw [hw hjv.symm, t3w]⟩
          obtain ⟨k, hfk, rfl⟩ := hfval
          refine ⟨fun _ _ => trivial, ?_⟩
          have hse : o.semAt Fence.wide.round a.eval = execOp a.eval o := Oper.semAt_none _ _
          have hex : (execOp a.eval o).run P w = .ok (.round k fn tm as' bd) w := by
            rw [hfe] at hfk
            simp [execOp, hop, resolve, Deferred.ofValue, hfk, invoke, hy]
          rw [hse, hex]
          refine ⟨fun h => by simp [Fence.wide] at h, RoundIn.mono hround ?_⟩
          rintro e w' ⟨CH', PR', q1, q2, q3, q4, q5⟩
          have fin : ∀ (b : Bool), ((b = true ∧ Z.J (pre ++ [as]) CH' PR' w') ∨ (b = false ∧ Z.Jx CH' PR' w')) → next (a.put o.dst (.bool b)) w' := by
            intro b hb
            let i2 : HI := ⟨n + 1, none, if b = true then 0 else 1, 0⟩
            let γ2 : Gh := { γ with mu := fun o => if o = 1 then some i2 else γ.mu o }
            have hx2 : ORel C'.fid γ2 w.heap { x with ver := n + 1 } i2 := by
              obtain ⟨_, g2, g3, _⟩ := hio
              refine ⟨rfl, fun c hc => by have := g2 c hc; rw [t5t] at this; exact this, by rw [t5t] at g3; exact g3, ?_⟩
              simp [i2]
            obtain ⟨_, _, S2⟩ := St.change (γ' := γ2) (w' := w) (u := [(1, { x with ver := n + 1 })]) S
              (fun o ho => by
                simp only [getO] at ho
                split at ho
                · cases ho
                · rename_i h; simp only [γ2]; rw [if_neg (fun e => h e.symm)])
              (fun o i' ho => by
                by_cases h : o = 1
                · subst h
                  rw [hi] at ho; injection ho with ho; subst ho
                  exact ⟨i2, by simp [γ2], .inr (by simp only [i2]; omega)⟩
                · exact ⟨i', by simp only [γ2]; rw [if_neg h]; exact ho, .inl rfl⟩)
              (fun b hb => ⟨hb, rfl⟩) rfl (fun o i' b _ _ _ => ⟨rfl, id⟩)
              (fun o y hy => by
                simp only [getO] at hy
                split at hy
                · rename_i h
                  injection hy with hy
                  subst hy; subst h
                  exact ⟨i2, by simp [γ2], hx2, fun b hb => by simp [i2] at hb⟩
                · cases hy)
              S.lt (fun b hb => .inl hb) (Chg.refl _ _)
            have hown2 : ∀ b, ownB γ2 b → ownB γ b := by
              rintro b ⟨o, i', h1, h2⟩
              simp only [γ2] at h1
              split at h1
              · injection h1 with h1; subst h1; simp [i2] at h2
              · exact ⟨o, i', h1, h2⟩
            have S3 := S2.rebase C'.kp q4 (fun b _ hb => ⟨(him b · |>.2.1 hb), fun h => hown b (t8 b hb).1 (hown2 b h)⟩)
            have S4 : St (C'.re γ2 w' C'.kp) γ2 w' a.tmps ((tslot, .y 1 (n + 1) 1) :: sl) ([(1, { x with ver := n + 1 })] ++ ob) := S3.tsl fun v => by
              simp only [RV, RAt]
              exact ⟨i2, by simp [γ2], by simp [i2], by simp [YR]⟩
            have hv2 : RV (C'.re γ2 w' C'.kp).fid γ2 w'.heap (.bool b) (.y 1 (n + 1) 2) := by
              simp only [RV, RAt]
              exact ⟨i2, by simp [γ2], by simp [i2], b, by simp, fun _ => by cases b <;> simp [i2]⟩
            have S5 : St (C'.re γ2 w' C'.kp) γ2 w' (a.put o.dst (.bool b)).tmps ((match o.dst with | some t => [(t, PV.y 1 (n + 1) 2)] | none => []) ++ (tslot, .y 1 (n + 1) 1) :: sl) ([(1, { x with ver := n + 1 })] ++ ob) := by
              have hd := hdst
              cases hdd : o.dst with
              | none => exact S4
              | some t => exact S4.put t (by rw [hs]; exact (hd t hdd).1) hv2
            refine hn _ γ2 w' _ _ (.tup [.un, .l g rest'], out) hK ⟨C'.re γ2 w' C'.kp, hf, hg, ?_, S5⟩
            refine ⟨by cases o.dst <;> exact t1, t2, ⟨j, by simp only [Ctx.re, γ2]; rw [if_neg (by omega)]; exact hj, hjv, t3w⟩, i2, by simp [Ctx.re, γ2], ⟨rfl, rfl⟩, ?_, CH', PR', ?_, ?_, ?_, ?_⟩
            · intro n' m e
              cases hdd : o.dst with
              | none =>
                rw [hdd] at e
                simp only [List.nil_append, getS_cons, if_true] at e
                injection e with _ e _
                exact e.symm
              | some t =>
                rw [hdd] at e
                have := (hdst t hdd).2
                simp only [List.cons_append, List.nil_append, getS_cons, if_true] at e
                rw [if_neg (fun e => absurd this (by rw [e]; exact Nat.lt_irrefl _))] at e
                injection e with _ e _
                exact e.symm
            · intro b' hb'
              obtain ⟨h1, h2⟩ := q2 b' hb'
              refine ⟨h2, fun h => ?_⟩
              have ho := hown2 b' h
              rcases h1 with h1 | h1 | h1
              · exact hown b' h1 ho
              · obtain ⟨o1, i1, g1, g2⟩ := ho
                obtain ⟨x1, hx1⟩ := S.dom o1 i1 g1
                exact S.unf o1 x1 i1 b' hx1 (warm_ok hwarm hx1) g1 g2 h1
              · obtain ⟨o1, i1, g1, g2⟩ := ho
                have := blk_lt S g1 g2; omega
            · intro b' hb'
              refine ⟨q3 b' hb', fun h => ?_⟩
              rcases q1 b' hb' with h1 | h1
              · exact (him b' h).2.1 h1
              · have := (him b' h).1; omega
            · rintro b' (h | h | h)
              · exact (him b' h).2.2
              · obtain ⟨o1, i1, g1, g2⟩ := hown2 b' h
                rcases S.own o1 i1 b' g1 g2 with h | h
                · exact t9 b' (.inr (.inl h))
                · exact t9 b' (.inr (.inr h))
              · exact t9 b' (.inr (.inr (Nat.le_trans S.chg.size (Nat.le_trans q4.size h))))
            · rcases hb with ⟨rfl, hJ'⟩ | ⟨rfl, hJ'⟩
              · exact .inl ⟨by simp [i2], pre ++ [as], rest', g, out, hJ', rfl, by rw [List.append_assoc]; exact hpre⟩
              · exact .inr ⟨by simp [i2], hJ'⟩
          rcases q5 with ⟨rfl, h⟩ | ⟨rfl, h⟩
          · exact fin true (.inl ⟨rfl, h⟩)
          · exact fin false (.inr ⟨rfl, h⟩)
        · cases H
      · cases H
    · cases H
  · cases H
end
end
section
open Go
def SoundI (P : Program) (fid : Nat → Nat) (glob : Nat → Option (List PV)) (Φ : Sem') : Prop :=
  ∀ (f0 : FuncId) (as : List PV) (os : List Obj') (g : Bool) (xs : List (List PV)), Φ (fid f0) as os = some (.tup [.un, .l g xs], []) → 2 ≤ os.length →
    ∀ (C : Ctx) (args : Array Value), C.fid = fid → C.glob = glob → args.size = as.length → os.length ≤ 64 → (∀ k, C.kp k ↔ k < 64) → St C C.g0 C.w0 args (zipN 0 as) (zipN 0 os) →
    ∀ (l nn : Nat) (Z : Rnd P fid xs l nn) (CH PR : Nat → Prop), (∃ i, C.g0.mu 0 = some i ∧ i.ver = 0 ∧ i.w = l) → C.g0.mu 1 = some ⟨0, none, 0, 0⟩ → (∀ b, PR b → b < C.w0.heap.size ∧ ¬ C.A b) → (∀ b, CH b → PR b ∧ ¬ C.g0.im b) → (∀ b, C.g0.im b ∨ C.A b ∨ C.w0.heap.size ≤ b → Z.IM b) → Z.J [] CH PR C.w0 →
      CallsIn Fence.wide (nn + 1) P f0 args C.w0 (fun e w' => (∃ v, e = .returned v) ∧ ((∃ CH PR, Z.J xs CH PR w') ∨ ∃ CH PR, Z.Jx CH PR w')) ∧ Bodied P f0
section
variable {P : Program} {E : Env} {C : Ctx}
def CHo (γ : Gh) (D l b : Nat) : Prop := (ownB γ b ∧ ¬ γ.im b) ∨ b = D ∨ b = l
def PRo (C : Ctx) (γ : Gh) (D l b : Nat) : Prop := ownB γ b ∨ b = D ∨ b = l ∨ γ.im b ∨ (b < C.w0.heap.size ∧ ¬ C.A b)
theorem own_cells {γ : Gh} {w : World} {tmps : Array Value} {sl : SL} {ob : OB} (S : St C γ w tmps sl ob) {b : Nat} (h : ownB γ b) : (∃ cs t fr, w.heap[b]? = some (.cells cs t fr)) ∨ ∃ es c, w.heap[b]? = some (.map es c) := by
  obtain ⟨o, i, h1, h2⟩ := h
  obtain ⟨x, hx⟩ := S.dom o i h1
  obtain ⟨i', h3, _, _, _, h4⟩ := S.obj o x hx
  rw [h1] at h3
  injection h3 with h3
  subst h3
  rw [h2] at h4
  obtain ⟨_, cs, h5, _⟩ := h4
  exact h5.kind
theorem Chg.put (w : World) (l : Nat) (o : Obj) : Chg (fun b => b = l) w (w.putObj l o) :=
  ⟨rfl, rfl, rfl, by simp, fun k _ hk => World.putObj_heap_other hk⟩
theorem Chg.allocs (w : World) (o : Obj) : Chg (fun _ => False) w (w.alloc o) :=
  ⟨rfl, rfl, rfl, by simp, fun k hk _ => by show (w.heap.push o)[k]? = _; rw [Array.getElem?_push, if_neg (Nat.ne_of_lt hk)]⟩
theorem Chg.weaken {A B : Nat → Prop} {w w' : World} (h : Chg A w w') (hAB : ∀ b, b < w.heap.size → A b → B b) : Chg B w w' :=
  ⟨h.os, h.tape, h.output, h.size, fun k hk hB => h.block k hk (fun hA => hB (hAB k hk hA))⟩
theorem okC_mono {fid : Nat → Nat} {γ γ' : Gh} {h h' : Array Obj} (hm : ∀ b, γ.im b → γ'.im b ∧ h'[b]? = h[b]?) {v : PV} (hv : okC v = true) {cs : Array Value} {off : Nat} (H : RAt fid γ h cs off v) : RAt fid γ' h' cs off v := by
  cases v <;> simp only [okC] at hv <;> first | (simpa only [RAt] using H) | (cases hv; done) | skip
  rename_i g xs
  cases g with
  | true => cases hv
  | false =>
    simp only [RAt] at H ⊢
    exact PAt_mono (fun b hb => ⟨⟨(hm b hb.1).1, fun h => by cases h⟩, (hm b hb.1).2⟩) _ _ _ H
theorem okT_mono {fid : Nat → Nat} {γ γ' : Gh} {h h' : Array Obj} (hm : ∀ b, γ.im b → γ'.im b ∧ h'[b]? = h[b]?) {v : PV} (hv : okT v = true) {x : Value} (H : RV fid γ h x v) : RV fid γ' h' x v := by
  by_cases ha : ∃ cs, v = .agg cs
  · obtain ⟨cs, rfl⟩ := ha
    simp only [okT] at hv
    obtain ⟨arr, e, hs, hR⟩ := RV_agg.1 H
    refine RV_agg.2 ⟨arr, e, hs, ?_⟩
    have key : ∀ (l : List PV) (off : Nat), l.all okC = true → RCells fid γ h arr off l → RCells fid γ' h' arr off l := by
      intro l
      induction l with
      | nil => intro off _ _; simp only [RCells]
      | cons v r ih =>
        intro off ho hR
        simp only [List.all_cons, Bool.and_eq_true] at ho
        simp only [RCells] at hR ⊢
        exact ⟨⟨hR.1.1, okC_mono hm ho.1 hR.1.2⟩, ih _ ho.2 hR.2⟩
    exact key cs 0 hv hR
  · have : okC v = true := by
      cases v <;> first | exact hv | exact absurd ⟨_, rfl⟩ ha
    exact okC_mono hm this H
theorem zipS_ok {γ : Gh} {w : World} {ob : OB} : ∀ (ps : List Tmp) (vals : List Value) (x : List PV) (tmps : Array Value) (sl : SL), St C γ w tmps sl ob → ps.length = x.length → vals.length = x.length → (∀ t ∈ ps, t < tmps.size) → (∀ (i : Nat) v y, x[i]? = some v → vals[i]? = some y → RV C.fid γ w.heap y v) →
    St C γ w ((ps.zip vals).foldl (fun t (p : Tmp × Value) => t.setIfInBounds p.1 p.2) tmps) (zipS ps x sl) ob ∧ ((ps.zip vals).foldl (fun t (p : Tmp × Value) => t.setIfInBounds p.1 p.2) tmps).size = tmps.size
  | [], vals, [], tmps, sl, S, _, _, _, _ => ⟨S, rfl⟩
  | p :: ps, v :: vals, x :: xs, tmps, sl, S, h1, h2, h3, h4 => by
    simp only [List.zip_cons_cons, List.foldl_cons, zipS]
    have S' := S.put p (h3 p (List.mem_cons_self ..)) (h4 0 x v rfl rfl)
    obtain ⟨g1, g2⟩ := zipS_ok ps vals xs _ _ S' (by simpa using h1) (by simpa using h2) (fun t ht => by simp; exact h3 t (List.mem_cons_of_mem _ ht)) (fun i a b ha hb => h4 (i + 1) a b (by simpa using ha) (by simpa using hb))
    exact ⟨g1, by rw [g2]; simp⟩
  | [], _, _ :: _, _, _, _, h, _, _, _ => by simp at h
  | _ :: _, _, [], _, _, _, h, _, _, _ => by simp at h
  | _ :: _, [], _ :: _, _, _, _, _, h, _, _ => by simp at h
theorem St.rekp {γ : Gh} {C : Ctx} {γ0 : Gh} {w0 w : World} {k1 k2 : Nat → Prop} {tmps : Array Value} {sl : SL} {ob : OB} (S : St (C.re γ0 w0 k1) γ w tmps sl ob) (h : ∀ k, k2 k → k1 k) : St (C.re γ0 w0 k2) γ w tmps sl ob :=
  ⟨S.slot, S.obj, S.dom, S.inj, S.unf, S.own, S.lt, S.glob, S.chg, S.gn, S.gnew, fun k i hk hi => S.kept k i (h k hk) hi, S.imk, S.imn, S.place, S.fresh⟩
end
end
end Go.Proofs.Ytnkapponcbgbhaa
