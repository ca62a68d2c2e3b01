/-
  A step of the reading is one of the model's.
-/
import Derived.Test.YtcimkkcajkmfoaaDoorStepA
set_option linter.all false
namespace Go.Proofs.YtcimkkcajkmfoaaDoor
open Go

/-- The operation comes to its end, and there this holds. -/
def Runs (P : Program) (ρ : Operand → Value) (o : Oper) (w : World) (Post : Value → World → Prop) : Prop :=
  (∃ x w', (execOp ρ o).run P w = .ok (.value x) w' ∧ Post x w') ∨ (∃ w', (execOp ρ o).run P w = .ok .skip w' ∧ Post undef w') ∨
    ∃ f args w', (execOp ρ o).run P w = .ok (.enter f args) w' ∧ Calls P f args w' fun e w'' => ∃ v, e = .returned v ∧ Post v w''
section
variable {P : Program} {E : Env} {C : Ctx} {γ : Gh} {w : World} {a : Act} {sl : SL} {ob : OB}
theorem want_ok (S : St C γ w a.tmps sl ob) {ops : Array Oper} {o : Oper} {b : Bool} (H : wantA ops o sl = some b) : Region.wanted o (yielded ops a.tmps) = b := by
  unfold wantA at H
  unfold Region.wanted
  split at H
  · rename_i hg
    injection H with H
    rw [hg]; exact H
  · rename_i j w' hg
    rw [hg]
    split at H
    · cases H
    · rename_i t ht
      have hs := S.slot t
      split at H
      · rename_i c hc
        injection H with H
        rw [hc, RV_b] at hs
        have h1 : a.tmps[t]? = some (.bool c) := by
          cases h : a.tmps[t]? with
          | none => simp [Array.getD_eq_getD_getElem?, h, undef] at hs
          | some x => simp [Array.getD_eq_getD_getElem?, h] at hs; rw [hs]
        simp only [yielded, ht, Option.bind_some, h1]
        rw [← H]
        cases c <;> cases w' <;> rfl
      · rename_i hc
        injection H with H
        rw [hc, RV_tup] at hs
        obtain ⟨arr, hs, _, _⟩ := hs
        have h1 : ∀ d, a.tmps[t]? ≠ some (.bool d) := by
          intro d h
          simp [Array.getD_eq_getD_getElem?, h] at hs
        simp only [yielded, ht, Option.bind_some]
        rw [← H]
        cases h : a.tmps[t]? with
        | none => rfl
        | some x =>
          cases x <;> first | rfl | exact absurd h (h1 _)
      · cases H
theorem opA_ok (hE : E.fid = C.fid) (hG : E.glob = C.glob) (S : St C γ w a.tmps sl ob) {Φ : Sem'} {o : Oper} {d : Nat} {r : Up} (hcall : ∀ f args tys, o.op ≠ .call { callee := .value f, args := args, argTypes := tys }) (H : opA P E Φ sl ob d o.op = some r) :
    Runs P a.eval o w fun x w' => ∃ γ', RV C.fid γ' w'.heap x r.1 ∧ St C γ' w' a.tmps sl (r.2 ++ ob) := by
  unfold opA at H
  split at H
  · rename_i v hv
    injection H with H; subst H
    obtain ⟨x, h1, h2⟩ := opV_ok hE hG S hv
    exact .inl ⟨x, w, h1, γ, h2, S⟩
  · split at H
    · rename_i x hx
      cases x with
      | none => simp at H
      | some v =>
        simp only [Option.map_some, Option.some.injEq] at H; subst H
        obtain ⟨x, h1, h2⟩ := opP_ok hE hG S hx
        exact .inl ⟨x, w, h1, γ, h2, S⟩
    · split at H
      · rename_i x hx
        subst H
        obtain ⟨nx, x, w', γ', h1, h2, h3, h4⟩ := opO_ok hE hG S hcall hx
        rcases h2 with rfl | ⟨rfl, rfl⟩
        · exact .inl ⟨x, w', h1, γ', h3, h4⟩
        · exact .inr (.inl ⟨w', h1, γ', h3, h4⟩)
      · cases H
theorem RL_app {fid : Nat → Nat} {γ : Gh} {h : Array Obj} {cs : Array Value} : ∀ {a b : List PV} {off : Nat}, RL fid γ h cs off (a ++ b) ↔ RL fid γ h cs off a ∧ RL fid γ h cs (off + a.length) b
  | [], b, off => by simp [RL]
  | v :: r, b, off => by
    simp only [List.cons_append, RL, RL_app (a := r), and_assoc, List.length_cons]
    rw [show off + 1 + r.length = off + (r.length + 1) by omega]
theorem RL_at {fid : Nat → Nat} {γ : Gh} {h : Array Obj} {cs cs' : Array Value} : ∀ {l : List PV} {off off' : Nat}, (∀ i x, i < l.length → cs[off + i]? = some x → cs'[off' + i]? = some x) → RL fid γ h cs off l → RL fid γ h cs' off' l
  | [], _, _, _, _ => by simp only [RL]
  | v :: r, off, off', H, R => by
    simp only [RL] at R ⊢
    obtain ⟨⟨x, hx, h1⟩, h2⟩ := R
    refine ⟨⟨x, by simpa using H 0 x (by simp) (by simpa using hx), h1⟩, RL_at (fun i y hi hy => ?_) h2⟩
    have := H (i + 1) y (by simp; omega) (by rw [show off + (i + 1) = off + 1 + i by omega]; exact hy)
    rwa [show off' + (i + 1) = off' + 1 + i by omega] at this
theorem calls_bodied {f : FuncId} {args : Array Value} {w : World} {R : Ending → World → Prop} (h : Calls P f args w fun e w' => R e w' ∧ Bodied P f) : Bodied P f := by
  obtain ⟨e, w', fr, ⟨_, hb⟩, _⟩ := h []
  exact hb
theorem run_callFunc {f : FuncId} {args : Array Value} (hb : Bodied P f) : (callFunc f args).run P w = .ok (.enter f args) w := by
  obtain ⟨fn, h1, h2, h3⟩ := hb
  unfold callFunc
  simp only [Sem.run_bind, run_program, Result.andThen_ok, h1]
  rw [if_neg (by rw [h3]; simp), if_neg (by rw [h2]; simp)]
  rfl
/-- A call of a function, or of a function value. -/
theorem call_ok (hE : E.fid = C.fid) (hG : E.glob = C.glob) (S : St C γ w a.tmps sl ob) {Φ : Sem'} (hΦ : Sound P C.fid C.glob Φ) {o : Oper} {d : Nat} {r : Up} {f : Operand} {args : Array Operand} {tys : Array TypeId} (ho : o.op = .call { callee := .value f, args := args, argTypes := tys })
    {raw : Bool} (H : (∃ f0, f = .func f0 ∧ ca Φ ob d raw (E.fid f0) (evs E sl args.toList) = some r) ∨ cav Φ ob d raw (ev E sl f) (evs E sl args.toList) = some r) :
    Runs P a.eval o w fun x w' => ∃ γ', RV C.fid γ' w'.heap x r.1 ∧ St C γ' w' a.tmps sl (r.2 ++ ob) := by
  have hargs := evs_ok' hE hG S args
  have go : ∀ (f0 : FuncId) (first caps : Array Value) (fs cs : List PV), a.eval f = .func (.func f0) first caps → RL C.fid γ w.heap first 0 fs → first.size = fs.length → RL C.fid γ w.heap caps 0 cs → caps.size = cs.length →
      ca Φ ob d raw (C.fid f0) (fs ++ (evs E sl args.toList ++ cs)) = some r → Runs P a.eval o w fun x w' => ∃ γ', RV C.fid γ' w'.heap x r.1 ∧ St C γ' w' a.tmps sl (r.2 ++ ob) := by
    intro f0 first caps fs cs hf h1 h2 h3 h4 hca
    have hlen : (evs E sl args.toList).length = args.size := by rw [evs_len]; simp
    have hRL : RL C.fid γ w.heap (first ++ args.map a.eval ++ caps) 0 (fs ++ (evs E sl args.toList ++ cs)) := by
      rw [RL_app, RL_app]
      refine ⟨RL_at (fun i x hi hx => ?_) h1, RL_at (fun i x hi hx => ?_) hargs, RL_at (fun i x hi hx => ?_) h3⟩
      · rw [Nat.zero_add] at hx ⊢
        rw [Array.append_assoc, Array.getElem?_append_left (by omega)]; exact hx
      · rw [Nat.zero_add] at hx
        rw [Array.getElem?_append_left (by simp; omega), Array.getElem?_append_right (by omega), h2, show 0 + fs.length + i - fs.length = i by omega]; exact hx
      · rw [Nat.zero_add] at hx
        rw [Array.getElem?_append_right (by simp; omega)]
        rw [show 0 + fs.length + (evs E sl args.toList).length + i - (first ++ args.map a.eval).size = i by simp [h2, hlen]]; exact hx
    have hsz : (first ++ args.map a.eval ++ caps).size = (fs ++ (evs E sl args.toList ++ cs)).length := by simp [h2, h4, hlen, Nat.add_assoc]
    have hc := ca_ok hΦ S hRL hsz hca
    have hb := calls_bodied hc
    refine .inr (.inr ⟨f0, first ++ args.map a.eval ++ caps, w, ?_, fun cs => ?_⟩)
    · simp [execOp, ho, resolve, Deferred.ofValue, hf, invoke, run_callFunc hb]
    · obtain ⟨e, w', fr, ⟨⟨v, γ', he, g1, g2⟩, _⟩, rest⟩ := hc cs
      exact ⟨e, w', fr, ⟨v, he, γ', g1, g2⟩, rest⟩
  rcases H with ⟨f0, rfl, H⟩ | H
  · exact go f0 #[] #[] [] [] rfl (by simp only [RL]) rfl (by simp only [RL]) rfl (by rw [← hE]; simpa using H)
  · unfold cav at H
    split at H
    · rename_i k fs caps hk
      have hf := ev_ok hE hG S f
      rw [hk, RV_fn] at hf
      obtain ⟨f0, a1, a2, e1, e2, ⟨s1, r1⟩, s2, r2⟩ := hf
      exact go f0 a1 a2 fs caps e1 r1 s1 r2 s2 (by rw [e2]; exact H)
    · cases H
end
end Go.Proofs.YtcimkkcajkmfoaaDoor
