import Derived.Test.YtnkapponcbgbhaaCallB
set_option linter.all false
namespace Go.Proofs.Ytnkapponcbgbhaa
section
open Go
def Runs (P : Program) (ρ : Operand → Value) (o : Oper) (w : World) (Post : Value → World → Prop) : Prop :=
  (∃ x w', (execOp ρ o).run P w = .ok (.value x) w' ∧ Post x w') ∨ (∃ w', (execOp ρ o).run P w = .ok .skip w' ∧ Post undef w') ∨
    ∃ f args w', (execOp ρ o).run P w = .ok (.enter f args) w' ∧ Calls P f args w' fun e w'' => ∃ v, e = .returned v ∧ Post v w''
section
variable {P : Program} {E : Env} {C : Ctx} {γ : Gh} {w : World} {a : Act} {sl : SL} {ob : OB}
theorem want_ok (S : St C γ w a.tmps sl ob) {ops : Array Oper} {o : Oper} {b : Bool} (H : wantA ops o sl = some b) : Region.wanted o (yielded ops a.tmps) = b := by
  unfold wantA at H
  unfold Region.wanted
  split at H
  · rename_i hg
    injection H with H
    rw [hg]; exact H
  · rename_i j w' hg
    rw [hg]
    split at H
    · cases H
    · rename_i t ht
      have hs := S.slot t
      split at H
      · rename_i c hc
        injection H with H
        rw [hc, RV_b] at hs
        have h1 : a.tmps[t]? = some (.bool c) := by
          cases h : a.tmps[t]? with
          | none => simp [Array.getD_eq_getD_getElem?, h, undef] at hs
          | some x => simp [Array.getD_eq_getD_getElem?, h] at hs; rw [hs]
        simp only [yielded, ht, Option.bind_some, h1]
        rw [← H]
        cases c <;> cases w' <;> rfl
      · rename_i hc
        injection H with H
        rw [hc, RV_tup] at hs
        obtain ⟨arr, hs, _, _⟩ := hs
        have h1 : ∀ d, a.tmps[t]? ≠ some (.bool d) := by
          intro d h
          simp [Array.getD_eq_getD_getElem?, h] at hs
        simp only [yielded, ht, Option.bind_some]
        rw [← H]
        cases h : a.tmps[t]? with
        | none => rfl
        | some x =>
          cases x <;> first | rfl | exact absurd h (h1 _)
      · cases H
theorem opA_ok (hE : E.fid = C.fid) (hG : E.glob = C.glob) (S : St C γ w a.tmps sl ob) {Φ : Sem'} {o : Oper} {d : Nat} {r : Up} (hcall : ∀ f args tys, o.op ≠ .call { callee := .value f, args := args, argTypes := tys }) (H : opA P E Φ sl ob d o.op = some r) :
    Runs P a.eval o w fun x w' => ∃ γ', RV C.fid γ' w'.heap x r.1 ∧ St C γ' w' a.tmps sl (r.2 ++ ob) := by
  unfold opA at H
  split at H
  · rename_i v hv
    injection H with H; subst H
    obtain ⟨x, h1, h2⟩ := opV_ok hE hG S hv
    exact .inl ⟨x, w, h1, γ, h2, S⟩
  · split at H
    · rename_i x hx
      cases x with
      | none => simp at H
      | some v =>
        simp only [Option.map_some, Option.some.injEq] at H; subst H
        obtain ⟨x, h1, h2⟩ := opP_ok hE hG S hx
        exact .inl ⟨x, w, h1, γ, h2, S⟩
    · split at H
      · rename_i x hx
        subst H
        obtain ⟨nx, x, w', γ', h1, h2, h3, h4⟩ := opO_ok hE hG S hcall hx
        rcases h2 with rfl | ⟨rfl, rfl⟩
        · exact .inl ⟨x, w', h1, γ', h3, h4⟩
        · exact .inr (.inl ⟨w', h1, γ', h3, h4⟩)
      · cases H
theorem RL_app {fid : Nat → Nat} {γ : Gh} {h : Array Obj} {cs : Array Value} : ∀ {a b : List PV} {off : Nat}, RL fid γ h cs off (a ++ b) ↔ RL fid γ h cs off a ∧ RL fid γ h cs (off + a.length) b
  | [], b, off => by simp [RL]
  | v :: r, b, off => by
    simp only [List.cons_append, RL, RL_app (a := r), and_assoc, List.length_cons]
    rw [show off + 1 + r.length = off + (r.length + 1) by omega]
theorem RL_at {fid : Nat → Nat} {γ : Gh} {h : Array Obj} {cs cs' : Array Value} : ∀ {l : List PV} {off off' : Nat}, (∀ i x, i < l.length → cs[off + i]? = some x → cs'[off' + i]? = some x) → RL fid γ h cs off l → RL fid γ h cs' off' l
  | [], _, _, _, _ => by simp only [RL]
  | v :: r, off, off', H, R => by
    simp only [RL] at R ⊢
    obtain ⟨⟨x, hx, h1⟩, h2⟩ := R
    refine ⟨⟨x, by simpa using H 0 x (by simp) (by simpa using hx), h1⟩, RL_at (fun i y hi hy => ?_) h2⟩
    have := H (i + 1) y (by simp; omega) (by rw [show off + (i + 1) = off + 1 + i by omega]; exact hy)
    rwa [show off' + (i + 1) = off' + 1 + i by omega] at this
theorem calls_bodied {f : FuncId} {args : Array Value} {w : World} {R : Ending → World → Prop} (h : Calls P f args w fun e w' => R e w' ∧ Bodied P f) : Bodied P f := by
  obtain ⟨e, w', fr, ⟨_, hb⟩, _⟩ := h []
  exact hb
theorem run_callFunc {f : FuncId} {args : Array Value} (hb : Bodied P f) : (callFunc f args).run P w = .ok (.enter f args) w := by
  obtain ⟨fn, h1, h2, h3⟩ := hb
  unfold callFunc
  simp only [Sem.run_bind, run_program, Result.andThen_ok, h1]
  rw [if_neg (by rw [h3]; simp), if_neg (by rw [h2]; simp)]
  rfl
theorem call_ok (hE : E.fid = C.fid) (hG : E.glob = C.glob) (S : St C γ w a.tmps sl ob) {Φ : Sem'} (hΦ : Sound P C.fid C.glob Φ) {o : Oper} {d : Nat} {r : Up} {f : Operand} {args : Array Operand} {tys : Array TypeId} (ho : o.op = .call { callee := .value f, args := args, argTypes := tys })
    {raw : Bool} (H : (∃ f0, f = .func f0 ∧ ca Φ ob d raw (E.fid f0) (evs E sl args.toList) = some r) ∨ cav Φ ob d raw (ev E sl f) (evs E sl args.toList) = some r) :
    Runs P a.eval o w fun x w' => ∃ γ', RV C.fid γ' w'.heap x r.1 ∧ St C γ' w' a.tmps sl (r.2 ++ ob) := by
  have hargs := evs_ok' hE hG S args
  have go : ∀ (f0 : FuncId) (first caps : Array Value) (fs cs : List PV), a.eval f = .func (.func f0) first caps → RL C.fid γ w.heap first 0 fs → first.size = fs.length → RL C.fid γ w.heap caps 0 cs → caps.size = cs.length →
      ca Φ ob d raw (C.fid f0) (fs ++ (evs E sl args.toList ++ cs)) = some r → Runs P a.eval o w fun x w' => ∃ γ', RV C.fid γ' w'.heap x r.1 ∧ St C γ' w' a.tmps sl (r.2 ++ ob) := by
    intro f0 first caps fs cs hf h1 h2 h3 h4 hca
    have hlen : (evs E sl args.toList).length = args.size := by rw [evs_len]; simp
    have hRL : RL C.fid γ w.heap (first ++ args.map a.eval ++ caps) 0 (fs ++ (evs E sl args.toList ++ cs)) := by
      rw [RL_app, RL_app]
      refine ⟨RL_at (fun i x hi hx => ?_) h1, RL_at (fun i x hi hx => ?_) hargs, RL_at (fun i x hi hx => ?_) h3⟩
      · rw [Nat.zero_add] at hx ⊢
        rw [Array.append_assoc, Array.getElem?_append_left (by omega)]; exact hx
      · rw [Nat.zero_add] at hx
        rw [Array.getElem?_append_left (by simp; omega), Array.getElem?_append_right (by omega), h2, show 0 + fs.length + i - fs.length = i by omega]; exact hx
      · rw [Nat.zero_add] at hx
        rw [Array.getElem?_append_right (by simp; omega)]
        rw [show 0 + fs.length + (evs E sl args.toList).length + i - (first ++ args.map a.eval).size = i by simp [h2, hlen]]; exact hx
    have hsz : (first ++ args.map a.eval ++ caps).size = (fs ++ (evs E sl args.toList ++ cs)).length := by simp [h2, h4, hlen, Nat.add_assoc]
    have hc := ca_ok hΦ S hRL hsz hca
    have hb := calls_bodied hc
    refine .inr (.inr ⟨f0, first ++ args.map a.eval ++ caps, w, ?_, fun cs => ?_⟩)
    · simp [execOp, ho, resolve, Deferred.ofValue, hf, invoke, run_callFunc hb]
    · obtain ⟨e, w', fr, ⟨⟨v, γ', he, g1, g2⟩, _⟩, rest⟩ := hc cs
      exact ⟨e, w', fr, ⟨v, he, γ', g1, g2⟩, rest⟩
  rcases H with ⟨f0, rfl, H⟩ | H
  · exact go f0 #[] #[] [] [] rfl (by simp only [RL]) rfl (by simp only [RL]) rfl (by rw [← hE]; simpa using H)
  · unfold cav at H
    split at H
    · rename_i k fs caps hk
      have hf := ev_ok hE hG S f
      rw [hk, RV_fn] at hf
      obtain ⟨f0, a1, a2, e1, e2, ⟨s1, r1⟩, s2, r2⟩ := hf
      exact go f0 a1 a2 fs caps e1 r1 s1 r2 s2 (by rw [e2]; exact H)
    · cases H
end
end
section
open Go
section
variable {P : Program} {E : Env} {C : Ctx} {γ : Gh} {w : World} {a : Act} {sl : SL} {ob : OB}
theorem reify1_eq {ob : OB} {v : PV} {q : PV × List Nat} (H : reify1 ob v = some q) : reify ob v = some q := by
  unfold reify1 at H
  unfold reify
  split at H
  · exact H
  · rename_i v' hv
    split
    · exact absurd rfl (hv _)
    · rename_i o ver lo n
      cases hx : getO ob o with
      | none => simp [reify0, hx, contX] at H
      | some x =>
        by_cases hp : x.pu = true
        · simp only [hp, if_true]; exact H
        · simp [reify0, hx, contX, hp] at H
    · exact H
theorem reifies1_eq {ob : OB} : ∀ {l : List PV} {q : List PV × List Nat}, reifies1 ob l = some q → reifies ob l = some q
  | [], q, H => H
  | v :: r, q, H => by
    simp only [reifies1] at H
    split at H
    · rename_i a b ha hb
      simp only [reifies, reify1_eq ha, reifies1_eq hb]; exact H
    · cases H
theorem reifiesN_eq {ob : OB} {n : Bool} {l : List PV} {q : List PV × List Nat} (H : reifiesN n ob l = some q) : reifies ob l = some q := by
  unfold reifiesN at H
  split at H
  · exact H
  · exact reifies1_eq H
theorem ca0_ca {Φ : Sem'} {ob : OB} {d f : Nat} {n : Bool} {args : List PV} {r : Up} (H : ca0 Φ ob d n f args = some r) : ca Φ ob d false f args = some r := by
  unfold ca0 at H
  cases hq : reifiesN n ob args with
  | none => simp [hq, ca0X] at H
  | some q =>
    rw [hq] at H
    simp only [ca0X] at H
    split at H
    · rename_i h0
      have hr := reifiesN_eq hq
      cases hp : Φ f q.1 [] with
      | none => simp [hp, ca0R] at H
      | some z =>
        rw [hp] at H
        simp only [ca0R] at H
        have hc : reach ob 20 [] [] = some [] := rfl
        simp only [ca, hand, hr, Bool.false_eq_true, if_false, h0, hc, hp]
        exact H
    · cases H
theorem St.sameG {C : Ctx} {γ : Gh} {w : World} {tmps : Array Value} {sl : SL} {ob u : OB} (S : St C γ w tmps sl (u ++ ob)) (h : ∀ k, getO (u ++ ob) k = getO ob k) : St C γ w tmps sl ([] ++ ob) :=
  { S with
    obj := fun o x hx => S.obj o x ((h o).trans hx)
    dom := fun o i hi => by obtain ⟨x, hx⟩ := S.dom o i hi; exact ⟨x, (h o).symm.trans hx⟩
    unf := fun o x i b hx => S.unf o x i b ((h o).trans hx) }
theorem Runs.mono {P : Program} {ρ : Operand → Value} {o : Oper} {w : World} {Q Q' : Value → World → Prop} (H : Runs P ρ o w Q) (h : ∀ x w', Q x w' → Q' x w') : Runs P ρ o w Q' := by
  rcases H with ⟨x, w', h1, h2⟩ | ⟨w', h1, h2⟩ | ⟨f, args, w', h1, h2⟩
  · exact .inl ⟨x, w', h1, h _ _ h2⟩
  · exact .inr (.inl ⟨w', h1, h _ _ h2⟩)
  · exact .inr (.inr ⟨f, args, w', h1, h2.mono fun e w'' ⟨v, e1, e2⟩ => ⟨v, e1, h _ _ e2⟩⟩)
theorem opA_all (hE : E.fid = C.fid) (hG : E.glob = C.glob) (hro : True) (hrov : E.rov = false) (S : St C γ w a.tmps sl ob) {Φ : Sem'} (hΦ : Sound P C.fid C.glob Φ) {o : Oper} {d : Nat} {r : Up} (H : opA P E Φ sl ob d o.op = some r) :
    Runs P a.eval o w fun x w' => ∃ γ', RV C.fid γ' w'.heap x r.1 ∧ St C γ' w' a.tmps sl (r.2 ++ ob) := by
  by_cases hc : ∃ f args tys, o.op = .call { callee := .value f, args := args, argTypes := tys }
  · obtain ⟨f, args, tys, ho⟩ := hc
    rw [ho] at H
    cases f with
    | func f0 =>
      simp only [opA, opV, opP, opO] at H
      split at H
      · unfold cr at H
        cases hq : ca Φ ob d (E.raw f0) (E.fid f0) (evs E sl args.toList) with
        | none => rw [hq] at H; simp [crX] at H
        | some q =>
          rw [hq] at H
          simp only [crX] at H
          split at H
          · rename_i hcc
            injection H with H
            subst H
            have := call_ok hE hG S hΦ ho (.inl ⟨f0, rfl, hq⟩)
            exact this.mono fun x w' ⟨γ', g1, g2⟩ => ⟨γ', g1, g2.sameG hcc.1⟩
          · cases H
      split at H
      · exact call_ok hE hG S hΦ ho (.inl ⟨f0, rfl, H⟩)
      · exact call_ok hE hG S hΦ ho (.inl ⟨f0, rfl, ca0_ca H⟩)
    | tmp t => exact call_ok hE hG S hΦ ho (.inr (by simpa [opA, opV, opP, opO, hrov] using H))
    | const v => exact call_ok hE hG S hΦ ho (.inr (by simpa [opA, opV, opP, opO, hrov] using H))
    | global g => exact call_ok hE hG S hΦ ho (.inr (by simpa [opA, opV, opP, opO, hrov] using H))
  · exact opA_ok hE hG S (fun f args tys h => hc ⟨f, args, tys, h⟩) H
theorem put_st {γ' : Gh} {w' : World} {ob' : OB} (S : St C γ' w' a.tmps sl ob') {dst : Option Tmp} (hd : ∀ t, dst = some t → t < a.tmps.size) {x : Value} {v : PV} (hv : RV C.fid γ' w'.heap x v) : St C γ' w' (a.put dst x).tmps (putS dst v sl) ob' := by
  cases dst with
  | none => exact S
  | some t => exact S.put t (hd t rfl) hv
theorem step_ok (hE : E.fid = C.fid) (hG : E.glob = C.glob) (hro : True) (hrov : E.rov = false) (S : St C γ w a.tmps sl ob) {Φ : Sem'} (hΦ : Sound P C.fid C.glob Φ) {ops : Array Oper} {o : Oper} {y : SL × OB} (hd : ∀ t, o.dst = some t → t < a.tmps.size)
    (H : stepA P E Φ ops o (sl, ob) = some y) :
    (Region.wanted o (yielded ops a.tmps) = true ∧ Runs P a.eval o w fun x w' => ∃ γ', St C γ' w' (a.put o.dst x).tmps y.1 y.2) ∨ (Region.wanted o (yielded ops a.tmps) = false ∧ St C γ w (a.put o.dst undef).tmps y.1 y.2) := by
  unfold stepA at H
  split at H
  · cases H
  · rename_i hw
    cases hA : opA P E Φ sl ob (nid o.dst) o.op with
    | none => simp [hA] at H
    | some r =>
      simp only [hA, Option.map_some, Option.some.injEq] at H; subst H
      refine .inl ⟨want_ok S hw, ?_⟩
      have := opA_all hE hG hro hrov S hΦ hA
      rcases this with ⟨x, w', h1, γ', h2, h3⟩ | ⟨w', h1, γ', h2, h3⟩ | ⟨f, args, w', h1, h2⟩
      · exact .inl ⟨x, w', h1, γ', put_st h3 hd h2⟩
      · exact .inr (.inl ⟨w', h1, γ', put_st h3 hd h2⟩)
      · refine .inr (.inr ⟨f, args, w', h1, fun cs => ?_⟩)
        obtain ⟨e, w'', fr, ⟨v, he, γ', g1, g2⟩, rest⟩ := h2 cs
        exact ⟨e, w'', fr, ⟨v, he, γ', put_st g2 hd g1⟩, rest⟩
  · rename_i hw
    injection H with H; subst H
    exact .inr ⟨want_ok S hw, put_st S hd (RV_tup.2 ⟨#[], rfl, rfl, by simp only [RL]⟩)⟩
theorem put_size (a : Act) (dst : Option Tmp) (v : Value) : (a.put dst v).tmps.size = a.tmps.size := by
  cases dst with
  | none => rfl
  | some d => simp [Act.put]
end
end
section
open Go
theorem cntN_app (o : Nat) : ∀ (a b : List Nat), cntN o (a ++ b) = cntN o a + cntN o b
  | [], b => by simp [cntN]
  | x :: r, b => by
    simp only [List.cons_append, cntN, cntN_app o r b]
    split <;> omega
theorem cntN_zero {o : Nat} : ∀ {l : List Nat}, cntN o l = 0 ↔ o ∉ l
  | [] => by simp [cntN]
  | x :: r => by
    simp only [cntN, List.mem_cons, not_or]
    by_cases e : x = o
    · simp [e]
    · rw [if_neg e, cntN_zero]; exact ⟨fun h => ⟨fun h' => e h'.symm, h⟩, fun h => h.2⟩
theorem cntN_pos {o : Nat} {l : List Nat} (h : o ∈ l) : 0 < cntN o l := Nat.pos_of_ne_zero (fun e => cntN_zero.1 e h)
theorem refsS_mem : ∀ {sl : SL} {t : Nat} {o : Nat}, o ∈ refs (getS sl t) → o ∈ refsS sl
  | [], t, o, h => by simp [getS, refs] at h
  | (k, v) :: r, t, o, h => by
    simp only [getS] at h
    simp only [refsS, List.mem_append]
    split at h
    · exact .inl h
    · exact .inr (refsS_mem h)
theorem refsS_once : ∀ {sl : SL} {t t' o : Nat}, o ∈ refs (getS sl t) → o ∈ refs (getS sl t') → cntN o (refsS sl) ≤ 1 → t = t'
  | [], t, t', o, h, _, _ => by simp [getS, refs] at h
  | (k, v) :: r, t, t', o, h, h', hc => by
    simp only [getS] at h h'
    simp only [refsS, cntN_app] at hc
    by_cases e : k = t
    · by_cases e' : k = t'
      · omega
      · rw [if_pos e] at h; rw [if_neg e'] at h'
        have := cntN_pos h; have := cntN_pos (refsS_mem h'); omega
    · by_cases e' : k = t'
      · rw [if_neg e] at h; rw [if_pos e'] at h'
        have := cntN_pos h'; have := cntN_pos (refsS_mem h); omega
      · rw [if_neg e] at h; rw [if_neg e'] at h'
        exact refsS_once h h' (by omega)
theorem keepO_ok (ob : OB) : ∀ {os : List Nat} {kb : OB}, keepO ob os = some kb → (∀ o, o ∈ os → getO kb o = getO ob o ∧ True) ∧ ∀ o, o ∉ os → getO kb o = none
  | [], kb, H => by simp only [keepO, Option.some.injEq] at H; subst H; exact ⟨(fun o h => by cases h), fun o _ => rfl⟩
  | o :: r, kb, H => by
    simp only [keepO] at H
    split at H
    · rename_i x y hx hy
      injection H with H; subst H
      obtain ⟨h1, h2⟩ := keepO_ok ob hy
      refine ⟨fun p hp => ?_, fun p hp => ?_⟩
      · simp only [getO]
        by_cases e : o = p
        · subst e; rw [if_pos rfl]; exact ⟨hx.symm, trivial⟩
        · rw [if_neg e]; exact h1 p ((List.mem_cons.1 hp).resolve_left (fun h => e h.symm))
      · simp only [List.mem_cons, not_or] at hp
        simp only [getO]; rw [if_neg (fun e => hp.1 e.symm)]; exact h2 p hp.2
    · rename_i y hx hy
      injection H with H; subst H
      obtain ⟨h1, h2⟩ := keepO_ok ob hy
      refine ⟨fun p hp => ?_, fun p hp => ?_⟩
      · rcases List.mem_cons.1 hp with rfl | hp
        · by_cases hp : p ∈ r
          · exact h1 p hp
          · exact ⟨by rw [h2 p hp, hx], trivial⟩
        · exact h1 p hp
      · simp only [List.mem_cons, not_or] at hp
        exact h2 p hp.2
    · cases H
theorem keepS_get (sl : SL) : ∀ (ts : List Nat) (t : Nat), getS (keepS sl ts) t = getS sl t ∨ getS (keepS sl ts) t = .un
  | [], t => .inr rfl
  | k :: r, t => by
    simp only [keepS, getS]
    by_cases e : k = t
    · subst e; simp
    · rw [if_neg e]; exact keepS_get sl r t
section
variable {C : Ctx} {γ : Gh} {w : World} {tmps : Array Value} {sl0 : SL} {ob : OB}
structure Hp (C : Ctx) (γ : Gh) (w : World) (tmps : Array Value) (ob : OB) (sl : SL) (rows : OB) (src : List Nat) (inf : Nat → Option HI) (so : Nat → Option Nat) : Prop where
  slot : ∀ t, RV C.fid γ w.heap (tmps.getD t undef) (getS sl t) ∨ ∃ o n i a c, getS sl t = .sl o 0 0 n ∧ inf o = some i ∧ tmps.getD t undef = .slice a n c ∧ HSl i 0 n a c
  row : ∀ o x, getO rows o = some x → ∃ i, inf o = some i ∧ i.ver = 0 ∧ x.fro = false ∧ x.pu = true ∧ 64 ≤ o ∧ ORel C.fid γ w.heap x i
  dom : ∀ o i, inf o = some i → ∃ x, getO rows o = some x
  srcs : ∀ o i b, inf o = some i → i.blk = some b → ∃ o' I X, so o = some o' ∧ o' ∈ src ∧ 64 ≤ o' ∧ γ.mu o' = some I ∧ I.blk = some b ∧ getO ob o' = some X ∧ X.fro = false
  so1 : ∀ o o' p, so o = some p → so o' = some p → o = o'
  sod : ∀ o p, so o = some p → p ∈ src ∧ ∃ x, getO rows o = some x
  own : ∀ o x, getO rows o = some x → ∃ t n i a c, getS sl t = .sl o 0 0 n ∧ inf o = some i ∧ tmps.getD t undef = .slice a n c ∧ HSl i 0 n a c
theorem setS_get (sl : SL) (t : Nat) (v : PV) : ∀ t', getS (setS sl t v) t' = getS sl t' ∨ (t' = t ∧ getS (setS sl t v) t' = v) := by
  induction sl with
  | nil => intro t'; exact .inl rfl
  | cons x r ih =>
    obtain ⟨k, u⟩ := x
    intro t'
    simp only [setS]
    split
    · rename_i e; subst e
      simp only [getS]
      split
      · rename_i e; exact .inr ⟨e.symm, rfl⟩
      · exact .inl rfl
    · simp only [getS]
      split
      · exact .inl rfl
      · exact ih t'
theorem setS_same (sl : SL) (t : Nat) (v : PV) (h : getS sl t ≠ .un) : getS (setS sl t v) t = v := by
  induction sl with
  | nil => exact absurd rfl h
  | cons x r ih =>
    obtain ⟨k, u⟩ := x
    simp only [setS]
    by_cases e : k = t
    · rw [if_pos e]; simp only [getS]; rw [if_pos e]
    · rw [if_neg e]; simp only [getS] at h ⊢; rw [if_neg e] at h ⊢; exact ih h
theorem toL_R {x : Value} {v u : PV} (h : RV C.fid γ w.heap x v) (H : toL v = some u) : RV C.fid γ w.heap x u := by
  unfold toL at H
  split at H
  · injection H with H; subst H; exact RV_flatL h
  · injection H with H; subst H; exact RV_flatL (RV_ln.1 h).1
  · injection H with H; subst H
    obtain ⟨a, e, _⟩ := RV_e.1 h
    exact RV_l.2 ⟨a, 0, e, Nat.zero_le _, .inl rfl⟩
  · cases H
theorem headC_ok (S : St C γ w tmps sl0 ob) : ∀ (nc : List NC) (sl : SL) (kb rows : OB) (src : List Nat) (inf : Nat → Option HI) (so : Nat → Option Nat) (sl' : SL) (kb' rows' : OB) (src' : List Nat), headC ob nc sl kb rows src = some (sl', kb', rows', src') →
    Hp C γ w tmps ob sl rows src inf so → kb' = kb ∧ ∃ inf' so', Hp C γ w tmps ob sl' rows' src' inf' so'
  | [], sl, kb, rows, src, inf, so, sl', kb', rows', src', H, h => by
    simp only [headC, Option.some.injEq, Prod.mk.injEq] at H
    obtain ⟨rfl, rfl, rfl, rfl⟩ := H
    exact ⟨rfl, inf, so, h⟩
  | .toL t :: r, sl, kb, rows, src, inf, so, sl', kb', rows', src', H, h => by
    simp only [headC] at H
    cases hv : toL (getS sl t) with
    | none => simp [hv] at H
    | some v =>
      simp only [hv] at H
      refine headC_ok S r _ _ _ _ inf so _ _ _ _ H ⟨fun t' => ?_, h.row, h.dom, h.srcs, h.so1, h.sod, fun o x hx => ?_⟩
      rotate_left
      · obtain ⟨t0, n, i, a, c, g1, g2⟩ := h.own o x hx
        rcases setS_get sl t v t0 with e | ⟨rfl, e⟩
        · exact ⟨t0, n, i, a, c, by rw [e]; exact g1, g2⟩
        · rw [g1] at hv; simp [toL] at hv
      rcases setS_get sl t v t' with e | ⟨rfl, e⟩
      · rw [e]; exact h.slot t'
      · rw [e]
        rcases h.slot t' with h' | ⟨o, n, i, a, c, e', _⟩
        · exact .inl (toL_R h' hv)
        · rw [e'] at hv; simp [toL] at hv
  | .crow _ _ _ _ :: r, sl, kb, rows, src, inf, so, sl', kb', rows', src', H, h => by simp [headC] at H
  | .cToL _ _ :: r, sl, kb, rows, src, inf, so, sl', kb', rows', src', H, h => by simp [headC] at H
  | .row t o wd :: r, sl, kb, rows, src, inf, so, sl', kb', rows', src', H, h => by
    simp only [headC] at H
    cases hv : asR ob wd (getS sl t) with
    | none => simp [hv] at H
    | some q =>
      obtain ⟨x, n, sr⟩ := q
      simp only [hv] at H
      split at H
      · rename_i hc
        obtain ⟨ho, hno, hsr⟩ := hc
        have hinf : inf o = none := by
          cases hi : inf o with
          | none => rfl
          | some i => obtain ⟨y, hy⟩ := h.dom o i hi; rw [hno] at hy; cases hy
        have hso : so o = none := by
          cases hi : so o with
          | none => rfl
          | some p => obtain ⟨_, y, hy⟩ := h.sod o p hi; rw [hno] at hy; cases hy
        have key : ∀ (i : HI) (sp : Option Nat), i.ver = 0 → x.fro = false → x.pu = true → ORel C.fid γ w.heap x i → (∃ a c, tmps.getD t undef = .slice a n c ∧ HSl i 0 n a c) →
            (∀ b, i.blk = some b → ∃ o' I X, sp = some o' ∧ o' ∈ sr ++ src ∧ 64 ≤ o' ∧ γ.mu o' = some I ∧ I.blk = some b ∧ getO ob o' = some X ∧ X.fro = false) → (∀ p, sp = some p → p ∈ sr) →
            Hp C γ w tmps ob (setS sl t (.sl o 0 0 n)) ((o, x) :: rows) (sr ++ src) (fun k => if k = o then some i else inf k) (fun k => if k = o then sp else so k) := by
          intro i sp hver hfro hpu hor hval hsrc hsp
          refine ⟨fun t' => ?_, fun k y hy => ?_, fun k j hj => ?_, fun k j b hj hb => ?_, fun k k' p h1 h2 => ?_, fun k p hk => ?_, fun k y hy => ?_⟩
          rotate_right
          · simp only [getO] at hy
            split at hy
            · rename_i e; subst e
              obtain ⟨a, c, e1, e2⟩ := hval
              exact ⟨t, n, i, a, c, setS_same _ _ _ (fun e => by rw [e] at hv; simp [asR] at hv), by rw [if_pos rfl], e1, e2⟩
            · rename_i e
              obtain ⟨t0, n0, i0, a, c, g1, g2, g3⟩ := h.own k y hy
              refine ⟨t0, n0, i0, a, c, ?_, by rw [if_neg (fun e' => e e'.symm)]; exact g2, g3⟩
              rcases setS_get sl t (.sl o 0 0 n) t0 with e' | ⟨rfl, _⟩
              · rw [e']; exact g1
              · rw [g1] at hv
                have hk : k ∈ sr := by
                  simp only [asR] at hv
                  split at hv
                  · split at hv
                    · simp only [Option.some.injEq, Prod.mk.injEq] at hv; rw [← hv.2.2]; simp
                    · cases hv
                  · cases hv
                have := List.any_eq_false.1 hsr k hk
                rw [hy] at this; simp at this
          · rcases setS_get sl t (.sl o 0 0 n) t' with e | ⟨rfl, e⟩
            · rw [e]
              rcases h.slot t' with h' | ⟨o2, n2, i2, a, c, e2, e3, e4, e5⟩
              · exact .inl h'
              · refine .inr ⟨o2, n2, i2, a, c, e2, ?_, e4, e5⟩
                rw [if_neg (fun e => by subst e; rw [hinf] at e3; cases e3)]; exact e3
            · obtain ⟨a, c, e1, e2⟩ := hval
              exact .inr ⟨o, n, i, a, c, e, by rw [if_pos rfl], e1, e2⟩
          · simp only [getO] at hy
            split at hy
            · rename_i e; subst e; injection hy with hy; subst hy
              exact ⟨i, by rw [if_pos rfl], hver, hfro, hpu, ho, hor⟩
            · rename_i e
              obtain ⟨j, h1, h2⟩ := h.row k y hy
              exact ⟨j, by rw [if_neg (fun e' => e e'.symm)]; exact h1, h2⟩
          · simp only [getO]
            by_cases e : o = k
            · rw [if_pos e]; exact ⟨x, rfl⟩
            · rw [if_neg (fun e' => e e'.symm)] at hj
              rw [if_neg e]; exact h.dom k j hj
          · by_cases e : k = o
            · rw [if_pos e] at hj; injection hj with hj; subst hj
              rw [if_pos e]; exact hsrc b hb
            · rw [if_neg e] at hj ⊢
              obtain ⟨o', I, X, h1, h2, h3⟩ := h.srcs k j b hj hb
              exact ⟨o', I, X, h1, List.mem_append_right _ h2, h3⟩
          · have hno' : ∀ p k, sp = some p → so k = some p → False := by
              intro p k e1 e2
              have hp := hsp p e1
              obtain ⟨h3, _⟩ := h.sod k p e2
              have := List.any_eq_false.1 hsr p hp
              simp at this; exact this.1 h3
            by_cases e : k = o
            · by_cases e' : k' = o
              · rw [e, e']
              · rw [if_pos e] at h1; rw [if_neg e'] at h2
                exact (hno' p k' h1 h2).elim
            · by_cases e' : k' = o
              · rw [if_neg e] at h1; rw [if_pos e'] at h2
                exact (hno' p k h2 h1).elim
              · rw [if_neg e] at h1; rw [if_neg e'] at h2
                exact h.so1 k k' p h1 h2
          · by_cases e : k = o
            · rw [if_pos e] at hk
              exact ⟨List.mem_append_left _ (hsp p hk), x, by rw [e]; simp [getO]⟩
            · rw [if_neg e] at hk
              obtain ⟨h1, y, h2⟩ := h.sod k p hk
              exact ⟨List.mem_append_right _ h1, y, by simp only [getO]; rw [if_neg (fun e' => e e'.symm)]; exact h2⟩
        have fin : ∀ (i : HI) (sp : Option Nat), Hp C γ w tmps ob (setS sl t (.sl o 0 0 n)) ((o, x) :: rows) (sr ++ src) (fun k => if k = o then some i else inf k) (fun k => if k = o then sp else so k) → kb' = kb ∧ ∃ inf' so', Hp C γ w tmps ob sl' rows' src' inf' so' := fun i sp hp => headC_ok S r _ _ _ _ _ _ _ _ _ _ H hp
        unfold asR at hv
        split at hv
        · rename_i nl hg
          simp only [Option.some.injEq, Prod.mk.injEq] at hv
          obtain ⟨rfl, rfl, rfl⟩ := hv
          refine fin ⟨0, none, wd, 0⟩ none (key _ _ rfl rfl rfl ⟨rfl, fun c h => by simp [row] at h, by simp [row], rfl⟩ ?_ (fun b hb => by cases hb) (fun p hp => by cases hp))
          rcases h.slot t with h' | ⟨o2, n2, i2, a, c, e2, _⟩
          · rw [hg] at h'
            obtain ⟨a, e, _⟩ := RV_e.1 h'
            exact ⟨a, 0, e, rfl, Nat.le_refl _, fun hh => by omega⟩
          · rw [hg] at e2; cases e2
        · rename_i o' ver lo n' hg
          cases hX : getO ob o' with
          | none => simp [hX] at hv
          | some X =>
            simp only [hX] at hv
            split at hv
            · rename_i hcc
              obtain ⟨c0, c1, c2, c3, c4, rfl, rfl⟩ := hcc
              simp only [Option.some.injEq, Prod.mk.injEq] at hv
              obtain ⟨rfl, rfl, rfl⟩ := hv
              have hno2 : getO rows o' = none := by
                have := List.any_eq_false.1 hsr o' (by simp)
                simp at this
                cases hh : getO rows o' with
                | none => rfl
                | some y => rw [hh] at this; simp at this
              rcases h.slot t with h' | ⟨o2, n2, i2, a, c, e2, e3, _⟩
              · rw [hg] at h'
                obtain ⟨I, hI, hvv, a, c, e, hh⟩ := RV_sl.1 h'
                obtain ⟨I', hI', q1, q2, q3, q4⟩ := S.obj o' X hX
                rw [hI] at hI'; injection hI' with hI'; subst hI'
                obtain ⟨g1, g2, g3⟩ := hh (by omega)
                refine fin { I with ver := 0 } (some o') (key _ _ rfl c2 c1 ⟨rfl, (fun c h => by cases h), q3, q4⟩ ⟨a, c, e, g1, g2, g3⟩ (fun b hb => ⟨o', I, X, rfl, by simp, c0, hI, hb, hX, c2⟩) (fun p hp => by injection hp with hp; simp [hp]))
              · rw [hg] at e2; injection e2 with e2; subst e2
                obtain ⟨y, hy⟩ := h.dom o' i2 e3
                rw [hno2] at hy; cases hy
            · cases hv
        · cases hv
      · cases H
theorem refsOB_mem : ∀ {kb : OB} {o p : Nat} {x : Obj'}, getO kb o = some x → p ∈ refsO x → p ∈ refsOB kb
  | [], o, p, x, h, _ => by simp [getO] at h
  | (k, v) :: r, o, p, x, h, hp => by
    simp only [getO] at h
    simp only [refsOB, List.mem_append]
    split at h
    · injection h with h; subst h; exact .inl hp
    · exact .inr (refsOB_mem h hp)
theorem keysO_mem : ∀ {rows : OB} {o : Nat}, o ∈ keysO rows ↔ ∃ x, getO rows o = some x
  | [], o => by simp [keysO, getO]
  | (k, v) :: r, o => by
    simp only [keysO, List.mem_cons, getO, keysO_mem (rows := r)]
    by_cases e : k = o
    · subst e; simp
    · rw [if_neg e]; exact ⟨fun h => h.resolve_left (fun h => e h.symm), fun h => .inr h⟩
theorem head_ok' (hkp : ∀ k, C.kp k → k < 64) (S : St C γ w tmps sl0 ob) {h : Hd} {x : SL × OB} (H : head h.nc h.ts h.os sl0 ob = some x) : ∃ γ', St C γ' w tmps x.1 x.2 := by
  unfold head at H
  cases hk : keepO ob h.os with
  | none => simp [hk] at H
  | some kb =>
    simp only [hk] at H
    split at H
    · cases H
    rename_i hkeep
    cases hc : headC ob h.nc (keepS sl0 h.ts) kb [] [] with
    | none => simp [hc, headF] at H
    | some q =>
      obtain ⟨sl, kb', rows, src⟩ := q
      simp only [hc, headF] at H
      split at H
      · rename_i hok
        injection H with H; subst H
        obtain ⟨rfl, inf, so, hp⟩ := headC_ok S h.nc _ _ _ _ (fun _ => none) (fun _ => none) _ _ _ _ hc
          { slot := fun t => by
              rcases keepS_get sl0 h.ts t with e | e
              · rw [e]; exact .inl (S.slot t)
              · rw [e]; exact .inl RV_un
            row := fun o x hx => by simp [getO] at hx
            dom := fun o i h => by cases h
            srcs := fun o i b h => by cases h
            so1 := fun o o' p h => by cases h
            sod := fun o p h => by cases h
            own := fun o x hx => by simp [getO] at hx }
        simp only [headOK, Bool.and_eq_true] at hok
        obtain ⟨⟨ok1, ok2⟩, ok3⟩ := hok
        have hsrc : ∀ p, p ∈ src → p ∉ h.os := fun p hp => by
          have := List.all_eq_true.1 ok1 p hp; simpa using this
        have hkey : ∀ o x, getO rows o = some x → o ∉ h.os ∧ cntN o (refsS sl ++ refsOB kb') = 1 := fun o x hx => by
          have := List.all_eq_true.1 ok2 o (keysO_mem.2 ⟨x, hx⟩); simpa using this
        have hall : ∀ o, o ∈ refsS sl ++ refsOB kb' → o ∈ h.os ∨ ∃ x, getO rows o = some x := fun o ho => by
          have := List.all_eq_true.1 ok3 o ho
          simp only [Bool.or_eq_true, List.contains_eq_mem, decide_eq_true_eq] at this
          exact this.imp id keysO_mem.1
        obtain ⟨k1, k2⟩ := keepO_ok ob hk
        have hinfos : ∀ o i, inf o = some i → o ∉ h.os := fun o i hi => by obtain ⟨x, hx⟩ := hp.dom o i hi; exact (hkey o x hx).1
        let γ' : Gh := { γ with mu := fun o => match inf o with
          | some i => some i
          | none => if o ∈ h.os then γ.mu o else none }
        have hmu1 : ∀ o i, inf o = some i → γ'.mu o = some i := fun o i hi => by simp only [γ', hi]
        have hmu2 : ∀ o, o ∈ h.os → γ'.mu o = γ.mu o := fun o ho => by
          have : inf o = none := by
            cases hi : inf o with
            | none => rfl
            | some i => exact absurd ho (hinfos o i hi)
          simp only [γ', this, ho, if_true]
        have hmu3 : ∀ o i, γ'.mu o = some i → inf o = some i ∨ (inf o = none ∧ o ∈ h.os ∧ γ.mu o = some i) := fun o i hi => by
          simp only [γ'] at hi
          split at hi
          · rename_i j hj; injection hi with hi; subst hi; exact .inl hj
          · rename_i hj
            split at hi
            · rename_i ho; exact .inr ⟨hj, ho, hi⟩
            · cases hi
        have M : ∀ S' : List Nat, (∀ o, o ∈ S' → o ∈ h.os) → Mv γ γ' w.heap w.heap S' (fun o => o) := fun S' hS => ⟨fun o ho i hi => ⟨i, by rw [hmu2 o (hS o ho)]; exact hi, .inl rfl⟩, fun g b hb => ⟨hb, rfl⟩⟩
        have rowRV : ∀ {o n i a c t}, getS sl t = .sl o 0 0 n → inf o = some i → tmps.getD t undef = .slice a n c → HSl i 0 n a c → RV C.fid γ' w.heap (tmps.getD t undef) (getS sl t) := fun {o n i a c t} e1 e2 e3 e4 => by
          rw [e1]
          exact RV_sl.2 ⟨i, hmu1 _ _ e2, Nat.zero_le _, a, c, e3, fun _ => e4⟩
        have once : ∀ o x, getO rows o = some x → cntN o (refsS sl) = 1 ∧ o ∉ refsOB kb' := fun o x hx => by
          have h1 := (hkey o x hx).2
          rw [cntN_app] at h1
          obtain ⟨t0, n, i, a, c, g1, _⟩ := hp.own o x hx
          have h2 : o ∈ refsS sl := refsS_mem (t := t0) (by rw [g1]; simp [refs])
          have h3 := cntN_pos h2
          exact ⟨by omega, cntN_zero.1 (by omega)⟩
        refine ⟨γ', ?_⟩
        constructor
        · intro t
          rcases hp.slot t with hl | ⟨o, n, i, a, c, e1, e2, e3, e4⟩
          · by_cases hex : ∃ o, o ∈ refs (getS sl t) ∧ ∃ x, getO rows o = some x
            · obtain ⟨o, ho, x, hx⟩ := hex
              obtain ⟨t0, n, i, a, c, g1, g2, g3, g4⟩ := hp.own o x hx
              have : t = t0 := refsS_once ho (by rw [g1]; simp [refs]) (Nat.le_of_eq (once o x hx).1)
              subst this
              exact rowRV g1 g2 g3 g4
            · refine RAt_mono (M _ fun o ho => ?_) hl
              rcases hall o (List.mem_append_left _ (refsS_mem ho)) with h' | h'
              · exact h'
              · exact absurd ⟨o, ho, h'⟩ hex
          · exact rowRV e1 e2 e3 e4
        · intro o x hx
          rw [getO_app] at hx
          split at hx
          · rename_i y hy
            injection hx with hx; subst hx
            obtain ⟨i, h1, _, _, hpu, _, hor⟩ := hp.row o y hy
            exact ⟨i, hmu1 o i h1, ORel_mono (M _ fun p hp' => by simp [refsO, hpu] at hp') (fun _ _ => rfl) hor⟩
          · have ho : o ∈ h.os := by
              by_cases ho : o ∈ h.os
              · exact ho
              · rw [k2 o ho] at hx; cases hx
            have hx' := hx
            rw [(k1 o ho).1] at hx
            obtain ⟨i, h1, hor⟩ := S.obj o x hx
            refine ⟨i, by rw [hmu2 o ho]; exact h1, ORel_mono (M _ fun p hp' => ?_) (fun _ _ => rfl) hor⟩
            have hm := refsOB_mem hx' hp'
            rcases hall p (List.mem_append_right _ hm) with h' | ⟨y, h'⟩
            · exact h'
            · exact absurd hm (once p y h').2
        · intro o i hi
          rcases hmu3 o i hi with h1 | ⟨_, ho, h1⟩
          · obtain ⟨x, hx⟩ := hp.dom o i h1
            exact ⟨x, getO_app_some hx⟩
          · obtain ⟨x, hx⟩ := S.dom o i h1
            cases hr : getO rows o with
            | some y => exact absurd ho (hkey o y hr).1
            | none => exact ⟨x, by rw [getO_app_none hr, (k1 o ho).1]; exact hx⟩
        · intro o o' i i' b h1 h2 h3 h4
          rcases hmu3 o i h1 with g1 | ⟨_, ho, g1⟩ <;> rcases hmu3 o' i' h2 with g2 | ⟨_, ho', g2⟩
          · obtain ⟨p, I, X, a1, a2, _, a4, a5, _⟩ := hp.srcs o i b g1 h3
            obtain ⟨p', I', X', b1, b2, _, b4, b5, _⟩ := hp.srcs o' i' b g2 h4
            have := S.inj p p' I I' b a4 b4 a5 b5
            subst this
            exact hp.so1 o o' p a1 b1
          · obtain ⟨p, I, X, a1, a2, _, a4, a5, _⟩ := hp.srcs o i b g1 h3
            have := S.inj p o' I i' b a4 g2 a5 h4
            subst this
            exact absurd ho' (hsrc p a2)
          · obtain ⟨p, I, X, a1, a2, _, a4, a5, _⟩ := hp.srcs o' i' b g2 h4
            have := S.inj p o I i b a4 g1 a5 h3
            subst this
            exact absurd ho (hsrc p a2)
          · exact S.inj o o' i i' b g1 g2 h3 h4
        · intro o x i b hx hf hi hb
          rcases hmu3 o i hi with g1 | ⟨gn, ho, g1⟩
          · obtain ⟨p, I, X, a1, a2, _, a4, a5, a6, a7⟩ := hp.srcs o i b g1 hb
            exact S.unf p X I b a6 a7 a4 a5
          · have hr : getO rows o = none := by
              cases hr : getO rows o with
              | none => rfl
              | some y => exact absurd ho (hkey o y hr).1
            rw [getO_app_none hr, (k1 o ho).1] at hx
            exact S.unf o x i b hx hf g1 hb
        · intro o i b hi hb
          rcases hmu3 o i hi with g1 | ⟨_, ho, g1⟩
          · obtain ⟨p, I, X, a1, a2, _, a4, a5, _⟩ := hp.srcs o i b g1 hb
            exact S.own p I b a4 a5
          · exact S.own o i b g1 hb
        · exact S.lt
        · exact S.glob
        · exact S.chg
        · exact S.gn
        · exact S.gnew
        · intro k i hk' hi
          have hk64 := hkp k hk'
          obtain ⟨i', h1, h2⟩ := S.kept k i hk' hi
          obtain ⟨x, hx⟩ := S.dom k i' h1
          have hko : k ∈ h.os := by
            have h3 : (keysO ob).all (fun o => decide (64 ≤ o) || h.os.contains o) = true := by
              cases hh : (keysO ob).all (fun o => decide (64 ≤ o) || h.os.contains o) with
              | true => rfl
              | false => exact absurd hh hkeep
            have := List.all_eq_true.1 h3 k (keysO_mem.2 ⟨x, hx⟩)
            simp only [Bool.or_eq_true, decide_eq_true_eq, List.contains_eq_mem] at this
            rcases this with h | h
            · omega
            · exact h
          exact ⟨i', by rw [hmu2 k hko]; exact h1, h2⟩
        · exact S.imk
        · exact S.imn
        · intro o i b hi hb
          rcases hmu3 o i hi with g1 | ⟨_, ho, g1⟩
          · obtain ⟨p, I, X, a1, a2, a3, a4, a5, _⟩ := hp.srcs o i b g1 hb
            rcases S.place p I b a4 a5 with ⟨h1, _⟩ | h1
            · omega
            · exact .inr h1
          · exact S.place o i b g1 hb
        · exact S.fresh
      · cases H
end
end
end Go.Proofs.Ytnkapponcbgbhaa
