/-
  A function that hands on to a loop: what it and the loop's rounds owe each other.
-/
import Derived.Test.YtcimkkcajkmfoaaDoorDenT
set_option linter.all false
namespace Go.Proofs.YtcimkkcajkmfoaaDoor
open Go

/-- The rounds of a loop over what is handed on, xs: J pre: so far all of pre has come; Jx: a round has left. CH: what rounds may turn; PR: what the function must leave as it is; IM: what it may read. -/
structure Rnd (P : Program) (fid : Nat → Nat) (xs : List (List PV)) (l nn : Nat) where
  J : List (List PV) → (Nat → Prop) → (Nat → Prop) → World → Prop
  Jx : (Nat → Prop) → (Nat → Prop) → World → Prop
  IM : Nat → Prop
  stab : ∀ pre CH PR W W', J pre CH PR W → Chg (fun b => ¬ PR b) W W' → J pre CH PR W'
  stabx : ∀ CH PR W W', Jx CH PR W → Chg (fun b => ¬ PR b) W W' → Jx CH PR W'
  round : ∀ pre x rest CH PR W (γ : Gh) vals, pre ++ x :: rest = xs → J pre CH PR W → RL fid γ W.heap vals 0 x → vals.size = x.length → x.all okT = true → (∀ b, γ.im b → b < W.heap.size ∧ ¬ CH b ∧ IM b) →
    YieldAt Fence.wide nn P l vals W fun e w' => ∃ CH' PR', (∀ b, CH' b → CH b ∨ W.heap.size ≤ b) ∧ (∀ b, PR' b → (PR b ∨ γ.im b ∨ W.heap.size ≤ b) ∧ b < w'.heap.size) ∧ (∀ b, CH' b → PR' b) ∧ Chg CH W w' ∧
      ((e = .returned (.bool true) ∧ J (pre ++ [x]) CH' PR' w') ∨ (e = .returned (.bool false) ∧ Jx CH' PR' w'))
/-- What the function keeps. -/
def TI {P : Program} {fid : Nat → Nat} {xs : List (List PV)} {l nn : Nat} (Z : Rnd P fid xs l nn) : KeepT := fun C' ds r sl =>
  ds = [] ∧ (∀ k, C'.kp k ↔ k < 64) ∧ (∃ i, C'.g0.mu 0 = some i ∧ i.ver = 0 ∧ i.w = l) ∧ ∃ i0, C'.g0.mu 1 = some i0 ∧ (i0.blk = none ∧ i0.tot = 0) ∧ (∀ n m, getS sl tslot = .y 1 n m → n = i0.ver) ∧
    ∃ CH PR, (∀ b, PR b → b < C'.w0.heap.size ∧ ¬ C'.A b) ∧ (∀ b, CH b → PR b ∧ ¬ C'.g0.im b) ∧ (∀ b, C'.g0.im b ∨ C'.A b ∨ C'.w0.heap.size ≤ b → Z.IM b) ∧
      ((i0.w = 0 ∧ ∃ pre rest g out, Z.J pre CH PR C'.w0 ∧ r = (.tup [.un, .l g rest], out) ∧ pre ++ rest = xs) ∨ (i0.w ≠ 0 ∧ Z.Jx CH PR C'.w0))
section
variable {P : Program} {E : Env} {C : Ctx} {xs : List (List PV)} {l nn : Nat}
theorem TI_slot (Z : Rnd P C.fid xs l nn) (hyp : E.yp = true) : SlotOK E.yp (TI Z) := by
  rintro C' ds r sl sl' h ⟨h1, h2, h3, i0, h4, h5, h6, h7⟩
  exact ⟨h1, h2, h3, i0, h4, h5, fun n m e => h6 n m (h hyp n m e), h7⟩
theorem TI_head (Z : Rnd P C.fid xs l nn) : HeadOK (TI Z) := fun C' ds r sl h k hk => (h.2.1 k).1 hk
/-- The object that tells how the loop stands is the one that it was. -/
theorem TI_i0 {C' : Ctx} {γ : Gh} {w : World} {tmps : Array Value} {sl : SL} {ob : OB} (S : St C' γ w tmps sl ob) (hkp : ∀ k, C'.kp k ↔ k < 64) {k : Nat} (hk : k < 64) {i i0 : HI} (h0 : C'.g0.mu k = some i0) (h1 : γ.mu k = some i) (hv : i.ver = i0.ver) : i = i0 := by
  obtain ⟨i', h2, h3⟩ := S.kept k i0 ((hkp k).2 hk) h0
  rw [h1] at h2
  injection h2 with h2
  subst h2
  rcases h3 with h3 | h3
  · exact h3
  · omega
theorem TI_go (Z : Rnd P C.fid xs l nn) : GoOK C (TI Z) := by
  constructor
  · rintro C' ds r sl γ w tmps ob n i S ⟨h1, h2, h3, i0, h4, h5, h6, h7⟩ hs hi hin hw
    refine ⟨h1, h2, h3, i0, h4, h5, fun n' m e => ?_, h7⟩
    simp only [getS_cons, if_true] at e
    injection e with _ e _
    rw [← e]; exact h6 n 1 hs
  · rintro C' ds r r' sl γ w tmps ob n i S ⟨h1, h2, h3, i0, h4, h5, h6, CH, PR, h7, h8, h9, h10⟩ hs hi hin hw
    have hn := h6 n 1 hs
    have e := TI_i0 S h2 (by omega) h4 hi (by rw [hin, hn])
    subst e
    refine ⟨h1, h2, h3, i, h4, h5, h6, CH, PR, h7, h8, h9, .inr ⟨hw, ?_⟩⟩
    rcases h10 with ⟨h, _⟩ | ⟨_, h⟩
    · exact absurd h hw
    · exact h
theorem consR_some {x : List PV} {y : Option R} {r : R} (h : consR x y = some r) : ∃ g rest out, y = some (.tup [.un, .l g rest], out) ∧ r = (.tup [.un, .l g (x :: rest)], out) := by
  unfold consR at h
  split at h
  · injection h with h; exact ⟨_, _, _, rfl, h.symm⟩
  · cases h
theorem warm_ok {ob : OB} (h : warm ob = true) {o : Nat} {x : Obj'} (hx : getO ob o = some x) : x.fro = false := by
  have := List.all_eq_true.1 h o (keysO_mem.2 ⟨x, hx⟩)
  rw [hx] at this
  simpa using this
theorem TI_y (hE : E.fid = C.fid) (hG : E.glob = C.glob) (Z : Rnd P C.fid xs l (nn - 1)) {M : Nat} : YOK P E C Fence.wide nn M (TI Z) := by
  intro o f args hv hdst sl ob a γ w r K' next Q H hs I hn
  obtain ⟨C', hf, hg, ⟨t1, t2, ⟨il, t3, t3v, t3w⟩, i0, t4, ⟨t5b, t5t⟩, t6, CH, PR, t7, t8, t9, t10⟩, S⟩ := I
  obtain ⟨tt, tys, hop, hfe⟩ : ∃ tt tys, o.op = .call { callee := .value (.tmp tt), args := args, argTypes := tys } ∧ f = .tmp tt := by
    unfold valCall at hv
    split at hv
    · rename_i h
      simp only [Option.some.injEq, Prod.mk.injEq] at hv
      obtain ⟨e1, e2⟩ := hv
      subst e1; subst e2
      exact ⟨_, _, h, rfl⟩
    · cases hv
  unfold yK at H
  unfold yGet at H
  split at H
  · rename_i n x0 x hfv hsv hx0 hx
    split at H
    · rename_i hc
      obtain ⟨hv0, hvn⟩ := hc
      unfold yGo at H
      split at H
      · rename_i as hre
        split at H
        · rename_i hc
          obtain ⟨hokT, hwarm⟩ := hc
          obtain ⟨g, rest', out, hK, hr⟩ := consR_some H
          -- the loop's object, and the one that tells how it stands
          obtain ⟨j, hj, hjo⟩ := S.obj 0 x0 hx0
          obtain ⟨i, hi, hio⟩ := S.obj 1 x hx
          have hjv : j.ver = 0 := by rw [← hjo.1, hv0]
          have hiv : i.ver = n := by rw [← hio.1, hvn]
          have ej := TI_i0 S t2 (by omega) t3 hj (by rw [hjv, t3v])
          have hn0 := t6 n 0 hsv
          have ei := TI_i0 S t2 (by omega) t4 hi (by rw [hiv, hn0])
          subst ej; subst ei
          have hw0 : i.w = 0 := by
            have := S.slot tslot
            rw [hsv] at this
            simp only [RV, RAt] at this
            obtain ⟨i', hi', _, h⟩ := this
            rw [hi] at hi'
            injection hi' with hi'
            subst hi'
            exact h hiv.symm
          obtain ⟨pre, rest, g0, out0, hJ, hr0, hpre⟩ : ∃ pre rest g out, Z.J pre CH PR C'.w0 ∧ r = (.tup [.un, .l g rest], out) ∧ pre ++ rest = xs := by
            rcases t10 with ⟨_, h⟩ | ⟨h, _⟩
            · exact h
            · exact absurd hw0 h
          rw [hr] at hr0
          simp only [Prod.mk.injEq, PV.tup.injEq, List.cons.injEq, PV.l.injEq, true_and, and_true] at hr0
          obtain ⟨⟨rfl, rfl⟩, rfl⟩ := hr0
          have hJw : Z.J pre CH PR w := Z.stab _ _ _ _ _ hJ ⟨S.chg.os, S.chg.tape, S.chg.output, S.chg.size, fun k hk hA => S.chg.block k hk (fun h => by
            have hp : PR k := Classical.byContradiction hA
            rcases h with h | h
            · exact (t7 k hp).2 h
            · omega)⟩
          -- what is handed on
          have hargs : RL C'.fid γ w.heap (args.map a.eval) 0 (evs E sl args.toList) := evs_ok' (by rw [hE, hf]) (by rw [hG, hg]) S args
          have hlen : (evs E sl args.toList).length = args.size := by rw [evs_len]; simp
          obtain ⟨hRL, hasl⟩ := reifies_ok S hre (γ' := γ) ⟨fun _ _ h => h, fun _ _ h => h, fun o i b ho => by simp at ho⟩ hargs
          have him : ∀ b, γ.im b → b < w.heap.size ∧ ¬ CH b ∧ Z.IM b := by
            intro b hb
            refine ⟨S.lt b hb, fun hch => ?_, ?_⟩
            · obtain ⟨h1, h2⟩ := t8 b hch
              obtain ⟨h3, h4⟩ := t7 b h1
              rcases S.imn b hb with h | h | h
              · exact h2 h
              · exact h4 h
              · omega
            · rcases S.imn b hb with h | h | h
              · exact t9 b (.inl h)
              · exact t9 b (.inr (.inl h))
              · exact t9 b (.inr (.inr h))
          have hown : ∀ b, PR b → ¬ ownB γ b := by
            rintro b hb ⟨o, i, h1, h2⟩
            obtain ⟨h3, h4⟩ := t7 b hb
            rcases S.own o i b h1 h2 with h | h
            · exact h4 h
            · omega
          obtain ⟨fn, tm, as', bd, hy, hround⟩ := Z.round pre as rest' CH PR w γ (args.map a.eval) hpre hJw (by rw [← hf]; exact hRL) (by rw [Array.size_map, ← hlen, hasl]) hokT him
          have hfval : ∃ k, a.eval f = .func (.yield k) #[] #[] ∧ k = l := by
            have := ev_ok (by rw [hE, hf]) (by rw [hG, hg]) S f
            rw [hfv] at this
            simp only [RV, RAt] at this
            obtain ⟨j', hj', _, h⟩ := this
            rw [hj] at hj'
            injection hj' with hj'
            subst hj'
            obtain ⟨k, hk, hw⟩ := h
            exact ⟨k, by simpa using hk, by rw [hw hjv.symm, t3w]⟩
          obtain ⟨k, hfk, rfl⟩ := hfval
          refine ⟨fun _ _ => trivial, ?_⟩
          have hse : o.semAt Fence.wide.round a.eval = execOp a.eval o := Oper.semAt_none _ _
          have hex : (execOp a.eval o).run P w = .ok (.round k fn tm as' bd) w := by
            rw [hfe] at hfk
            simp [execOp, hop, resolve, Deferred.ofValue, hfk, invoke, hy]
          rw [hse, hex]
          refine ⟨fun h => by simp [Fence.wide] at h, RoundIn.mono hround ?_⟩
          rintro e w' ⟨CH', PR', q1, q2, q3, q4, q5⟩
          have fin : ∀ (b : Bool), ((b = true ∧ Z.J (pre ++ [as]) CH' PR' w') ∨ (b = false ∧ Z.Jx CH' PR' w')) → next (a.put o.dst (.bool b)) w' := by
            intro b hb
            let i2 : HI := ⟨n + 1, none, if b = true then 0 else 1, 0⟩
            let γ2 : Gh := { γ with mu := fun o => if o = 1 then some i2 else γ.mu o }
            have hx2 : ORel C'.fid γ2 w.heap { x with ver := n + 1 } i2 := by
              obtain ⟨_, g2, g3, _⟩ := hio
              refine ⟨rfl, fun c hc => by have := g2 c hc; rw [t5t] at this; exact this, by rw [t5t] at g3; exact g3, ?_⟩
              simp [i2]
            obtain ⟨_, _, S2⟩ := St.change (γ' := γ2) (w' := w) (u := [(1, { x with ver := n + 1 })]) S
              (fun o ho => by
                simp only [getO] at ho
                split at ho
                · cases ho
                · rename_i h; simp only [γ2]; rw [if_neg (fun e => h e.symm)])
              (fun o i' ho => by
                by_cases h : o = 1
                · subst h
                  rw [hi] at ho; injection ho with ho; subst ho
                  exact ⟨i2, by simp [γ2], .inr (by simp only [i2]; omega)⟩
                · exact ⟨i', by simp only [γ2]; rw [if_neg h]; exact ho, .inl rfl⟩)
              (fun b hb => ⟨hb, rfl⟩) rfl (fun o i' b _ _ _ => ⟨rfl, id⟩)
              (fun o y hy => by
                simp only [getO] at hy
                split at hy
                · rename_i h
                  injection hy with hy
                  subst hy; subst h
                  exact ⟨i2, by simp [γ2], hx2, fun b hb => by simp [i2] at hb⟩
                · cases hy)
              S.lt (fun b hb => .inl hb) (Chg.refl _ _)
            have hown2 : ∀ b, ownB γ2 b → ownB γ b := by
              rintro b ⟨o, i', h1, h2⟩
              simp only [γ2] at h1
              split at h1
              · injection h1 with h1; subst h1; simp [i2] at h2
              · exact ⟨o, i', h1, h2⟩
            have S3 := S2.rebase C'.kp q4 (fun b _ hb => ⟨(him b · |>.2.1 hb), fun h => hown b (t8 b hb).1 (hown2 b h)⟩)
            have S4 : St (C'.re γ2 w' C'.kp) γ2 w' a.tmps ((tslot, .y 1 (n + 1) 1) :: sl) ([(1, { x with ver := n + 1 })] ++ ob) := S3.tsl fun v => by
              simp only [RV, RAt]
              exact ⟨i2, by simp [γ2], by simp [i2], by simp [YR]⟩
            have hv2 : RV (C'.re γ2 w' C'.kp).fid γ2 w'.heap (.bool b) (.y 1 (n + 1) 2) := by
              simp only [RV, RAt]
              exact ⟨i2, by simp [γ2], by simp [i2], b, by simp, fun _ => by cases b <;> simp [i2]⟩
            have S5 : St (C'.re γ2 w' C'.kp) γ2 w' (a.put o.dst (.bool b)).tmps ((match o.dst with | some t => [(t, PV.y 1 (n + 1) 2)] | none => []) ++ (tslot, .y 1 (n + 1) 1) :: sl) ([(1, { x with ver := n + 1 })] ++ ob) := by
              have hd := hdst
              cases hdd : o.dst with
              | none => exact S4
              | some t => exact S4.put t (by rw [hs]; exact (hd t hdd).1) hv2
            refine hn _ γ2 w' _ _ (.tup [.un, .l g rest'], out) hK ⟨C'.re γ2 w' C'.kp, hf, hg, ?_, S5⟩
            refine ⟨by cases o.dst <;> exact t1, t2, ⟨j, by simp only [Ctx.re, γ2]; rw [if_neg (by omega)]; exact hj, hjv, t3w⟩, i2, by simp [Ctx.re, γ2], ⟨rfl, rfl⟩, ?_, CH', PR', ?_, ?_, ?_, ?_⟩
            · intro n' m e
              cases hdd : o.dst with
              | none =>
                rw [hdd] at e
                simp only [List.nil_append, getS_cons, if_true] at e
                injection e with _ e _
                exact e.symm
              | some t =>
                rw [hdd] at e
                have := (hdst t hdd).2
                simp only [List.cons_append, List.nil_append, getS_cons, if_true] at e
                rw [if_neg (fun e => absurd this (by rw [e]; exact Nat.lt_irrefl _))] at e
                injection e with _ e _
                exact e.symm
            · intro b' hb'
              obtain ⟨h1, h2⟩ := q2 b' hb'
              refine ⟨h2, fun h => ?_⟩
              have ho := hown2 b' h
              rcases h1 with h1 | h1 | h1
              · exact hown b' h1 ho
              · obtain ⟨o1, i1, g1, g2⟩ := ho
                obtain ⟨x1, hx1⟩ := S.dom o1 i1 g1
                exact S.unf o1 x1 i1 b' hx1 (warm_ok hwarm hx1) g1 g2 h1
              · obtain ⟨o1, i1, g1, g2⟩ := ho
                have := blk_lt S g1 g2; omega
            · intro b' hb'
              refine ⟨q3 b' hb', fun h => ?_⟩
              rcases q1 b' hb' with h1 | h1
              · exact (him b' h).2.1 h1
              · have := (him b' h).1; omega
            · rintro b' (h | h | h)
              · exact (him b' h).2.2
              · obtain ⟨o1, i1, g1, g2⟩ := hown2 b' h
                rcases S.own o1 i1 b' g1 g2 with h | h
                · exact t9 b' (.inr (.inl h))
                · exact t9 b' (.inr (.inr h))
              · exact t9 b' (.inr (.inr (Nat.le_trans S.chg.size (Nat.le_trans q4.size h))))
            · rcases hb with ⟨rfl, hJ'⟩ | ⟨rfl, hJ'⟩
              · exact .inl ⟨by simp [i2], pre ++ [as], rest', g, out, hJ', rfl, by rw [List.append_assoc]; exact hpre⟩
              · exact .inr ⟨by simp [i2], hJ'⟩
          rcases q5 with ⟨rfl, h⟩ | ⟨rfl, h⟩
          · exact fin true (.inl ⟨rfl, h⟩)
          · exact fin false (.inr ⟨rfl, h⟩)
        · cases H
      · cases H
    · cases H
  · cases H
end
end Go.Proofs.YtcimkkcajkmfoaaDoor
