/-
  The reading of code holds of the model's runs: by its form.
-/
import Derived.Test.YtcimkkcajkmfoaaDoorDenA
set_option linter.all false
namespace Go.Proofs.YtcimkkcajkmfoaaDoor
open Go

/-- A call that hands on to a loop. -/
def YOK (P : Program) (E : Env) (C : Ctx) (F : Fence) (nn M : Nat) (T : KeepT) : Prop :=
  ∀ (o : Oper) (f : Operand) (args : Array Operand), valCall o.op = some (f, args) → (∀ t, o.dst = some t → t < M ∧ t < tslot) → ∀ (sl : SL) (ob : OB) (a : Act) (γ : Gh) (w : World) (r : R) (K' : SL → OB → Option R) (next : Act → World → Prop) (Q : Exit → Act → World → Prop),
    yK ob sl o.dst (ev E sl f) (evs E sl args.toList) K' = some r → a.tmps.size = M → Inv C T r γ w a sl ob →
    (∀ v γ' w' sl' ob' r', K' sl' ob' = some r' → Inv C T r' γ' w' (a.put o.dst v) sl' ob' → next (a.put o.dst v) w') → o.wpIn F nn P a w next Q
/-- What is kept over a loop over a function. -/
def RgT (T : KeepT) : Prop := ∀ C' ds r sl sl' γ w w' tmps ob (Q : Nat → Prop) D, T C' ds r sl → St C' γ w tmps sl ob → Chg Q w w' → (∀ b, b < C'.w0.heap.size → Q b → C'.A b) → (∀ b, b < w.heap.size → Q b → ¬ γ.im b ∧ ¬ ownB γ b) →
  D < w'.heap.size → ¬ ownB γ D → ¬ γ.im D → C'.w0.heap.size ≤ D → w'.heap[D]? = some (.deferred (some [])) → T (C'.re γ w' C'.kp) ({ target := .collected D, args := #[] } :: ds) r sl'
/-- The reading of code holds. -/
def DenOK (P : Program) (E : Env) (C : Ctx) (Φ : Sem') (N n M : Nat) (c : Code) : Prop :=
  ∀ (nn : Nat) (F : Fence), Wd F → ∀ (T : KeepT), SlotOK E.yp T → (E.yp = true → GoOK C T ∧ YOK P E C F nn M T) → (noHead c = false → F = Fence.wide ∧ HeadOK T ∧ (E.yp = false → RgT T)) →
    (∀ (K : Kont) (sl : SL) (ob : OB) (a : Act) (γ : Gh) (w : World) (r : R), den P E Φ N n c none K sl ob = some r → a.tmps.size = M → Inv C T r γ w a sl ob → c.wpIn F nn P (Post C T M K) a w) ∧
    ∀ (l : Nat) (rest : Code), findLabel c l = some rest → ∀ (K : Kont) (sl : SL) (ob : OB) (a : Act) (γ : Gh) (w : World) (r : R), den P E Φ N n c (some l) K sl ob = some r → a.tmps.size = M → Inv C T r γ w a sl ob → rest.wpIn F nn P (Post C T M K) a w
section
variable {P : Program} {E : Env} {C : Ctx} {F : Fence}
/-- Operations of a function that hands on. -/
theorem runY (hF : Wd F) {T : KeepT} (hT : SlotOK E.yp T) {Q : Exit → Act → World → Prop} {n N : Nat} (hY : YOK P E C F n N T) (hE : E.fid = C.fid) (hG : E.glob = C.glob) (hro : ∀ f, E.ro f = false) (hrov : E.rov = false) {Φ : Sem'} (hΦ : Sound P C.fid C.glob Φ) (hyp : E.yp = true) (ops : Array Oper) (hd : ∀ o ∈ ops.toList, ∀ t, o.dst = some t → t < N ∧ (E.yp = true → t < tslot)) {K : SL → OB → Option R}
    (hQ : ∀ a' γ' w' sl' ob' r', K sl' ob' = some r' → a'.tmps.size = N → Inv C T r' γ' w' a' sl' ob' → Q .normal a' w') :
    ∀ (l : List Nat) (os : List Oper) (a : Act) (γ : Gh) (w : World) (sl : SL) (ob : OB) (r : R), l.map (ops[·]?) = os.map some → denOpsY P E Φ ops K os sl ob = some r → a.tmps.size = N → Inv C T r γ w a sl ob → wpOpsIn F n P ops Q l a w
  | [], os, a, γ, w, sl, ob, r, hl, H, hs, I => by
    cases os with
    | nil => simp only [denOpsY] at H; exact hQ a γ w sl ob r H hs I
    | cons o r => simp at hl
  | i :: l, os, a, γ, w, sl, ob, r, hl, H, hs, I => by
    cases os with
    | nil => simp at hl
    | cons o rest =>
      simp only [List.map_cons, List.cons.injEq] at hl
      obtain ⟨hi, hl⟩ := hl
      have hmem : o ∈ ops.toList := by
        rw [Array.mem_toList_iff]; exact Array.mem_of_getElem? hi
      have hd1 := hd o hmem
      simp only [wpOpsIn, hi]
      simp only [denOpsY] at H
      have skip : ∀ (b : Bool), wantA ops o sl = some b → b = false → denOpsY P E Φ ops K rest (putS o.dst (.tup []) sl) ob = some r → ¬ Region.wanted o (yielded ops a.tmps) = true ∧ wpOpsIn F n P ops Q l (a.put o.dst undef) w := by
        intro b hw hb H'
        subst hb
        obtain ⟨C', hf, hg, hTT, S⟩ := I
        refine ⟨by rw [want_ok S hw]; simp, ?_⟩
        have hT2 : T C' a.defers r (putS o.dst (.tup []) sl) := by
          refine hT _ _ _ _ _ (fun hy k m h => ?_) hTT
          cases hdst : o.dst with
          | none => rw [hdst] at h; exact h
          | some t =>
            rw [hdst] at h
            simp only [putS, getS_cons] at h
            rw [if_neg (fun e => by subst e; exact Nat.lt_irrefl _ ((hd1 _ hdst).2 hy))] at h
            exact h
        have hdf : (a.put o.dst undef).defers = a.defers := by cases o.dst <;> rfl
        exact runY hF hT hY hE hG hro hrov hΦ hyp ops hd hQ l rest _ γ w _ ob r hl H' (by rw [put_size]; exact hs) ⟨C', hf, hg, by rw [hdf]; exact hT2, put_st S (fun t ht => by rw [hs]; exact (hd1 t ht).1) (RV_tup.2 ⟨#[], rfl, rfl, by simp only [RL]⟩)⟩
      have doit : ∀ (f : Operand) (args : Array Operand), valCall o.op = some (f, args) → wantA ops o sl = some true → yK ob sl o.dst (ev E sl f) (evs E sl args.toList) (denOpsY P E Φ ops K rest) = some r → Region.wanted o (yielded ops a.tmps) = true ∧ o.wpIn F n P a w (fun a w => wpOpsIn F n P ops Q l a w) Q := by
        intro f args hv hw H'
        obtain ⟨C', hf, hg, hTT, S⟩ := I
        refine ⟨want_ok S hw, ?_⟩
        exact hY o f args hv (fun t ht => ⟨(hd1 t ht).1, (hd1 t ht).2 hyp⟩) sl ob a γ w r _ _ Q H' hs ⟨C', hf, hg, hTT, S⟩ (fun v γ' w' sl' ob' r' hK I' => runY hF hT hY hE hG hro hrov hΦ hyp ops hd hQ l rest _ γ' w' sl' ob' r' hl hK (by rw [put_size]; exact hs) I')
      split at H
      · rename_i f args hv
        split at H
        · rename_i hg
          obtain ⟨h1, h2⟩ := doit f args hv (by unfold wantA; rw [hg]) H
          rw [if_pos h1]; exact h2
        · rename_i j wt hg
          split at H
          · cases H
          · rename_i t ht
            split at H
            · rename_i c hc
              split at H
              · rename_i e
                subst e
                obtain ⟨h1, h2⟩ := doit f args hv (by unfold wantA; simp [hg, ht, hc]) H
                rw [if_pos h1]; exact h2
              · rename_i e
                obtain ⟨h1, h2⟩ := skip (c == wt) (by unfold wantA; simp [hg, ht, hc]) (by simpa using e) H
                rw [if_neg h1]; exact ⟨fun f _ => hF.fn f, h2⟩
            · rename_i hc
              obtain ⟨h1, h2⟩ := skip false (by unfold wantA; simp [hg, ht, hc]) rfl H
              rw [if_neg h1]; exact ⟨fun f _ => hF.fn f, h2⟩
            · cases H
      · obtain ⟨x1, h2, H⟩ := denI_step H
        have := op_wpInF (n := n) hF hT hE hG hro hrov hΦ hd1 (x := (sl, ob)) hs I h2 (next := fun a w => wpOpsIn F n P ops Q l a w) (Q := Q) (fun a' γ' w' h1 h2 => runY hF hT hY hE hG hro hrov hΦ hyp ops hd hQ l rest a' γ' w' x1.1 x1.2 r hl H h1 h2)
        split
        · rename_i h1; rw [if_pos h1] at this; exact this
        · rename_i h1; rw [if_neg h1] at this; exact ⟨fun f _ => hF.fn f, this⟩
/-- The slot of a loop is written. -/
theorem St.tsl {γ : Gh} {w : World} {tmps : Array Value} {sl : SL} {ob : OB} (S : St C γ w tmps sl ob) {v : PV} (h : ∀ x, RV C.fid γ w.heap x v) : St C γ w tmps ((tslot, v) :: sl) ob :=
  S.slots fun t => by
    rw [getS_cons]
    split
    · exact h _
    · exact S.slot t
theorem goStop_some {G S : Option R} {r : R} (h : goStop G S = some r) : G = some r ∧ ∃ r', S = some r' := by
  unfold goStop at h
  split at h
  · exact ⟨h, _, rfl⟩
  · cases h
theorem brGo_some {n : Nat} {A B : SL → OB → Option R} {sl : SL} {ob : OB} {v : PV} {x : Option Obj'} {r : R} (h : brGo n A B sl ob v x = some r) : v = .y 1 n 1 ∧ (∃ x', x = some x' ∧ x'.ver = n) ∧ A ((tslot, .y 1 n 0) :: sl) ob = some r ∧ ∃ r', B sl ob = some r' := by
  unfold brGo at h
  split at h
  · split at h
    · rename_i hc
      obtain ⟨rfl, hv⟩ := hc
      obtain ⟨h1, h2⟩ := goStop_some h
      exact ⟨rfl, ⟨_, rfl, hv⟩, h1, h2⟩
    · cases h
  · cases h
end
end Go.Proofs.YtcimkkcajkmfoaaDoor
