/-
  Regions in the order of their text.
-/
import Derived.Test.YtcimkkcajkmfoaaDoorStepB
set_option linter.all false
namespace Go.Proofs.YtcimkkcajkmfoaaDoor
open Go

section
variable {P : Program} {E : Env} {C : Ctx} {γ : Gh} {w : World} {a : Act} {sl : SL} {ob : OB}
theorem reify1_eq {ob : OB} {v : PV} {q : PV × List Nat} (H : reify1 ob v = some q) : reify ob v = some q := by
  unfold reify1 at H
  unfold reify
  split at H
  · exact H
  · rename_i v' hv
    split
    · exact absurd rfl (hv _)
    · rename_i o ver lo n
      cases hx : getO ob o with
      | none => simp [reify0, hx, contX] at H
      | some x =>
        by_cases hp : x.pu = true
        · simp only [hp, if_true]; exact H
        · simp [reify0, hx, contX, hp] at H
    · exact H
theorem reifies1_eq {ob : OB} : ∀ {l : List PV} {q : List PV × List Nat}, reifies1 ob l = some q → reifies ob l = some q
  | [], q, H => H
  | v :: r, q, H => by
    simp only [reifies1] at H
    split at H
    · rename_i a b ha hb
      simp only [reifies, reify1_eq ha, reifies1_eq hb]; exact H
    · cases H
theorem reifiesN_eq {ob : OB} {n : Bool} {l : List PV} {q : List PV × List Nat} (H : reifiesN n ob l = some q) : reifies ob l = some q := by
  unfold reifiesN at H
  split at H
  · exact H
  · exact reifies1_eq H
theorem ca0_ca {Φ : Sem'} {ob : OB} {d f : Nat} {n : Bool} {args : List PV} {r : Up} (H : ca0 Φ ob d n f args = some r) : ca Φ ob d false f args = some r := by
  unfold ca0 at H
  cases hq : reifiesN n ob args with
  | none => simp [hq, ca0X] at H
  | some q =>
    rw [hq] at H
    simp only [ca0X] at H
    split at H
    · rename_i h0
      have hr := reifiesN_eq hq
      cases hp : Φ f q.1 [] with
      | none => simp [hp, ca0R] at H
      | some z =>
        rw [hp] at H
        simp only [ca0R] at H
        have hc : reach ob 20 [] [] = some [] := rfl
        simp only [ca, hand, hr, Bool.false_eq_true, if_false, h0, hc, hp]
        exact H
    · cases H
theorem opA_all (hE : E.fid = C.fid) (hG : E.glob = C.glob) (hro : ∀ f, E.ro f = false) (hrov : E.rov = false) (S : St C γ w a.tmps sl ob) {Φ : Sem'} (hΦ : Sound P C.fid C.glob Φ) {o : Oper} {d : Nat} {r : Up} (H : opA P E Φ sl ob d o.op = some r) :
    Runs P a.eval o w fun x w' => ∃ γ', RV C.fid γ' w'.heap x r.1 ∧ St C γ' w' a.tmps sl (r.2 ++ ob) := by
  by_cases hc : ∃ f args tys, o.op = .call { callee := .value f, args := args, argTypes := tys }
  · obtain ⟨f, args, tys, ho⟩ := hc
    rw [ho] at H
    cases f with
    | func f0 =>
      simp only [opA, opV, opP, opO, hro, Bool.false_eq_true, if_false] at H
      split at H
      · exact call_ok hE hG S hΦ ho (.inl ⟨f0, rfl, H⟩)
      · exact call_ok hE hG S hΦ ho (.inl ⟨f0, rfl, ca0_ca H⟩)
    | tmp t => exact call_ok hE hG S hΦ ho (.inr (by simpa [opA, opV, opP, opO, hrov] using H))
    | const v => exact call_ok hE hG S hΦ ho (.inr (by simpa [opA, opV, opP, opO, hrov] using H))
    | global g => exact call_ok hE hG S hΦ ho (.inr (by simpa [opA, opV, opP, opO, hrov] using H))
  · exact opA_ok hE hG S (fun f args tys h => hc ⟨f, args, tys, h⟩) H
theorem put_st {γ' : Gh} {w' : World} {ob' : OB} (S : St C γ' w' a.tmps sl ob') {dst : Option Tmp} (hd : ∀ t, dst = some t → t < a.tmps.size) {x : Value} {v : PV} (hv : RV C.fid γ' w'.heap x v) : St C γ' w' (a.put dst x).tmps (putS dst v sl) ob' := by
  cases dst with
  | none => exact S
  | some t => exact S.put t (hd t rfl) hv
theorem step_ok (hE : E.fid = C.fid) (hG : E.glob = C.glob) (hro : ∀ f, E.ro f = false) (hrov : E.rov = false) (S : St C γ w a.tmps sl ob) {Φ : Sem'} (hΦ : Sound P C.fid C.glob Φ) {ops : Array Oper} {o : Oper} {y : SL × OB} (hd : ∀ t, o.dst = some t → t < a.tmps.size)
    (H : stepA P E Φ ops o (sl, ob) = some y) :
    (Region.wanted o (yielded ops a.tmps) = true ∧ Runs P a.eval o w fun x w' => ∃ γ', St C γ' w' (a.put o.dst x).tmps y.1 y.2) ∨ (Region.wanted o (yielded ops a.tmps) = false ∧ St C γ w (a.put o.dst undef).tmps y.1 y.2) := by
  unfold stepA at H
  split at H
  · cases H
  · rename_i hw
    cases hA : opA P E Φ sl ob (nid o.dst) o.op with
    | none => simp [hA] at H
    | some r =>
      simp only [hA, Option.map_some, Option.some.injEq] at H; subst H
      refine .inl ⟨want_ok S hw, ?_⟩
      have := opA_all hE hG hro hrov S hΦ hA
      rcases this with ⟨x, w', h1, γ', h2, h3⟩ | ⟨w', h1, γ', h2, h3⟩ | ⟨f, args, w', h1, h2⟩
      · exact .inl ⟨x, w', h1, γ', put_st h3 hd h2⟩
      · exact .inr (.inl ⟨w', h1, γ', put_st h3 hd h2⟩)
      · refine .inr (.inr ⟨f, args, w', h1, fun cs => ?_⟩)
        obtain ⟨e, w'', fr, ⟨v, he, γ', g1, g2⟩, rest⟩ := h2 cs
        exact ⟨e, w'', fr, ⟨v, he, γ', put_st g2 hd g1⟩, rest⟩
  · rename_i hw
    injection H with H; subst H
    exact .inr ⟨want_ok S hw, put_st S hd (RV_tup.2 ⟨#[], rfl, rfl, by simp only [RL]⟩)⟩
theorem runs_wpIn {n : Nat} {o : Oper} {Post : Value → World → Prop} {next : Act → World → Prop} {Q : Exit → Act → World → Prop} (H : Runs P a.eval o w Post) (hn : ∀ x w', Post x w' → next (a.put o.dst x) w') : o.wpIn Fence.wide n P a w next Q := by
  refine ⟨fun _ _ => trivial, ?_⟩
  have hs : o.semAt Fence.wide.round a.eval = execOp a.eval o := Oper.semAt_none _ _
  rw [hs]
  rcases H with ⟨x, w', h1, h2⟩ | ⟨w', h1, h2⟩ | ⟨f, args, w', h1, h2⟩
  · rw [h1]; exact hn _ _ h2
  · rw [h1]; exact hn _ _ h2
  · rw [h1]
    refine ⟨fun h => by simp [Fence.wide] at h, ?_⟩
    refine CallsIn.mono (callsIn_wide.2 h2) ?_
    rintro e w'' ⟨v, rfl, hp⟩
    exact hn _ _ hp
theorem put_size (a : Act) (dst : Option Tmp) (v : Value) : (a.put dst v).tmps.size = a.tmps.size := by
  cases dst with
  | none => rfl
  | some d => simp [Act.put]
/-- Operations in a given order. -/
theorem run_wpIn {Q : Exit → Act → World → Prop} {n N : Nat} (hE : E.fid = C.fid) (hG : E.glob = C.glob) (hro : ∀ f, E.ro f = false) (hrov : E.rov = false) {Φ : Sem'} (hΦ : Sound P C.fid C.glob Φ) (ops : Array Oper) (hd : ∀ o ∈ ops.toList, ∀ t, o.dst = some t → t < N) :
    ∀ (l : List Nat) (os : List Oper) (a : Act) (γ : Gh) (w : World) (x y : SL × OB), l.map (ops[·]?) = os.map some → a.tmps.size = N → a.defers = [] → St C γ w a.tmps x.1 x.2 → runA P E Φ ops os x = some y →
      (∀ a' γ' w', a'.tmps.size = N → a'.defers = [] → St C γ' w' a'.tmps y.1 y.2 → Q .normal a' w') → wpOpsIn Fence.wide n P ops Q l a w
  | [], os, a, γ, w, x, y, hl, hs, hdf, S, H, hQ => by
    cases os with
    | nil => simp only [runA, Option.some.injEq] at H; subst H; exact hQ a γ w hs hdf S
    | cons o r => simp at hl
  | i :: l, os, a, γ, w, x, y, hl, hs, hdf, S, H, hQ => by
    cases os with
    | nil => simp at hl
    | cons o r =>
      simp only [List.map_cons, List.cons.injEq] at hl
      obtain ⟨hi, hl⟩ := hl
      simp only [runA] at H
      split at H
      · rename_i z hz
        have hmem : o ∈ ops.toList := by
          rw [Array.mem_toList_iff]; exact Array.mem_of_getElem? hi
        have hd' : ∀ t, o.dst = some t → t < a.tmps.size := fun t ht => by rw [hs]; exact hd o hmem t ht
        simp only [wpOpsIn, hi]
        rcases step_ok hE hG hro hrov S hΦ hd' hz with ⟨h1, h2⟩ | ⟨h1, h2⟩
        · rw [if_pos h1]
          refine runs_wpIn h2 ?_
          rintro v w' ⟨γ', S'⟩
          exact run_wpIn hE hG hro hrov hΦ ops hd l r _ γ' w' z y hl (by rw [put_size]; exact hs) (by cases o.dst <;> exact hdf) S' H hQ
        · rw [if_neg (by rw [h1]; simp)]
          exact ⟨fun _ _ => trivial, run_wpIn hE hG hro hrov hΦ ops hd l r _ γ w z y hl (by rw [put_size]; exact hs) (by cases o.dst <;> exact hdf) h2 H hQ⟩
      · cases H
end
end Go.Proofs.YtcimkkcajkmfoaaDoor
