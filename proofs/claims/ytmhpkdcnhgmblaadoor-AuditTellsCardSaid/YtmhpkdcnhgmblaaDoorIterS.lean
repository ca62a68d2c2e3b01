import Derived.Test.YtmhpkdcnhgmblaaDoorDenA
set_option linter.all false
namespace Go.Proofs.YtmhpkdcnhgmblaaDoor
section
open Go
structure Rnd (P : Program) (fid : Nat → Nat) (xs : List (List PV)) (l nn : Nat) where
  J : List (List PV) → (Nat → Prop) → (Nat → Prop) → World → Prop
  Jx : (Nat → Prop) → (Nat → Prop) → World → Prop
  IM : Nat → Prop
  stab : ∀ pre CH PR W W', J pre CH PR W → Chg (fun b => ¬ PR b) W W' → J pre CH PR W'
  stabx : ∀ CH PR W W', Jx CH PR W → Chg (fun b => ¬ PR b) W W' → Jx CH PR W'
  round : ∀ pre x rest CH PR W (γ : Gh) vals, pre ++ x :: rest = xs → J pre CH PR W → RL fid γ W.heap vals 0 x → vals.size = x.length → x.all okT = true → (∀ b, γ.im b → b < W.heap.size ∧ ¬ CH b ∧ IM b) →
    YieldAt Fence.wide nn P l vals W fun e w' => ∃ CH' PR', (∀ b, CH' b → CH b ∨ W.heap.size ≤ b) ∧ (∀ b, PR' b → (PR b ∨ γ.im b ∨ W.heap.size ≤ b) ∧ b < w'.heap.size) ∧ (∀ b, CH' b → PR' b) ∧ Chg CH W w' ∧
      ((e = .returned (.bool true) ∧ J (pre ++ [x]) CH' PR' w') ∨ (e = .returned (.bool false) ∧ Jx CH' PR' w'))
def TI {P : Program} {fid : Nat → Nat} {xs : List (List PV)} {l nn : Nat} (Z : Rnd P fid xs l nn) : KeepT := fun C' ds r sl =>
  ds = [] ∧ (∀ k, C'.kp k ↔ k < 64) ∧ (∃ i, C'.g0.mu 0 = some i ∧ i.ver = 0 ∧ i.w = l) ∧ ∃ i0, C'.g0.mu 1 = some i0 ∧ (i0.blk = none ∧ i0.tot = 0) ∧ (∀ n m, getS sl tslot = .y 1 n m → n = i0.ver) ∧
    ∃ CH PR, (∀ b, PR b → b < C'.w0.heap.size ∧ ¬ C'.A b) ∧ (∀ b, CH b → PR b ∧ ¬ C'.g0.im b) ∧ (∀ b, C'.g0.im b ∨ C'.A b ∨ C'.w0.heap.size ≤ b → Z.IM b) ∧
      ((i0.w = 0 ∧ ∃ pre rest g out, Z.J pre CH PR C'.w0 ∧ r = (.tup [.un, .l g rest], out) ∧ pre ++ rest = xs) ∨ (i0.w ≠ 0 ∧ Z.Jx CH PR C'.w0))
section
variable {P : Program} {E : Env} {C : Ctx} {xs : List (List PV)} {l nn : Nat}
theorem TI_slot (Z : Rnd P C.fid xs l nn) (hyp : E.yp = true) : SlotOK E.yp (TI Z) := by
  rintro C' ds r sl sl' h ⟨h1, h2, h3, i0, h4, h5, h6, h7⟩
  exact ⟨h1, h2, h3, i0, h4, h5, fun n m e => h6 n m (h hyp n m e), h7⟩
theorem TI_head (Z : Rnd P C.fid xs l nn) : HeadOK (TI Z) := fun C' ds r sl h k hk => (h.2.1 k).1 hk
theorem TI_i0 {C' : Ctx} {γ : Gh} {w : World} {tmps : Array Value} {sl : SL} {ob : OB} (S : St C' γ w tmps sl ob) (hkp : ∀ k, C'.kp k ↔ k < 64) {k : Nat} (hk : k < 64) {i i0 : HI} (h0 : C'.g0.mu k = some i0) (h1 : γ.mu k = some i) (hv : i.ver = i0.ver) : i = i0 := by
  obtain ⟨i', h2, h3⟩ := S.kept k i0 ((hkp k).2 hk) h0
  rw [h1] at h2
  injection h2 with h2
  subst h2
  rcases h3 with h3 | h3
  · exact h3
  · omega
theorem TI_go (Z : Rnd P C.fid xs l nn) : GoOK C (TI Z) := by
  constructor
  · rintro C' ds r sl γ w tmps ob n i S ⟨h1, h2, h3, i0, h4, h5, h6, h7⟩ hs hi hin hw
    refine ⟨h1, h2, h3, i0, h4, h5, fun n' m e => ?_, h7⟩
    simp only [getS_cons, if_true] at e
    injection e with _ e _
    rw [← e]; exact h6 n 1 hs
  · rintro C' ds r r' sl γ w tmps ob n i S ⟨h1, h2, h3, i0, h4, h5, h6, CH, PR, h7, h8, h9, h10⟩ hs hi hin hw
    have hn := h6 n 1 hs
    have e := TI_i0 S h2 (by omega) h4 hi (by rw [hin, hn])
    subst e
    refine ⟨h1, h2, h3, i, h4, h5, h6, CH, PR, h7, h8, h9, .inr ⟨hw, ?_⟩⟩
    rcases h10 with ⟨h, _⟩ | ⟨_, h⟩
    · exact absurd h hw
    · exact h
theorem consR_some {x : List PV} {y : Option R} {r : R} (h : consR x y = some r) : ∃ g rest out, y = some (.tup [.un, .l g rest], out) ∧ r = (.tup [.un, .l g (x :: rest)], out) := by
  unfold consR at h
  split at h
  · injection h with h; exact ⟨_, _, _, rfl, h.symm⟩
  · cases h
theorem warm_ok {ob : OB} (h : warm ob = true) {o : Nat} {x : Obj'} (hx : getO ob o = some x) : x.fro = false := by
  have := List.all_eq_true.1 h o (keysO_mem.2 ⟨x, hx⟩)
  rw [hx] at this
  simpa using this
theorem TI_y (hE : E.fid = C.fid) (hG : E.glob = C.glob) (Z : Rnd P C.fid xs l (nn - 1)) {M : Nat} : YOK P E C Fence.wide nn M (TI Z) := by
  intro o f args hv hdst sl ob a γ w r K' next Q H hs I hn
  obtain ⟨C', hf, hg, ⟨t1, t2, ⟨il, t3, t3v, t3w⟩, i0, t4, ⟨t5b, t5t⟩, t6, CH, PR, t7, t8, t9, t10⟩, S⟩ := I
  obtain ⟨tt, tys, hop, hfe⟩ : ∃ tt tys, o.op = .call { callee := .value (.tmp tt), args := args, argTypes := tys } ∧ f = .tmp tt := by
    unfold valCall at hv
    split at hv
    · rename_i h
      simp only [Option.some.injEq, Prod.mk.injEq] at hv
      obtain ⟨e1, e2⟩ := hv
      subst e1; subst e2
      exact ⟨_, _, h, rfl⟩
    · cases hv
  unfold yK at H
  unfold yGet at H
  split at H
  · rename_i n x0 x hfv hsv hx0 hx
    split at H
    · rename_i hc
      obtain ⟨hv0, hvn⟩ := hc
      unfold yGo at H
      split at H
      · rename_i as hre
        split at H
        · rename_i hc
          obtain ⟨hokT, hwarm⟩ := hc
          obtain ⟨g, rest', out, hK, hr⟩ := consR_some H
          obtain ⟨j, hj, hjo⟩ := S.obj 0 x0 hx0
          obtain ⟨i, hi, hio⟩ := S.obj 1 x hx
          have hjv : j.ver = 0 := by rw [← hjo.1, hv0]
          have hiv : i.ver = n := by rw [← hio.1, hvn]
          have ej := TI_i0 S t2 (by omega) t3 hj (by rw [hjv, t3v])
          have hn0 := t6 n 0 hsv
          have ei := TI_i0 S t2 (by omega) t4 hi (by rw [hiv, hn0])
          subst ej; subst ei
          have hw0 : i.w = 0 := by
            have := S.slot tslot
            rw [hsv] at this
            simp only [RV, RAt] at this
            obtain ⟨i', hi', _, h⟩ := this
            rw [hi] at hi'
            injection hi' with hi'
            subst hi'
            exact h hiv.symm
          obtain ⟨pre, rest, g0, out0, hJ, hr0, hpre⟩ : ∃ pre rest g out, Z.J pre CH PR C'.w0 ∧ r = (.tup [.un, .l g rest], out) ∧ pre ++ rest = xs := by
            rcases t10 with ⟨_, h⟩ | ⟨h, _⟩
            · exact h
            · exact absurd hw0 h
          rw [hr] at hr0
          simp only [Prod.mk.injEq, PV.tup.injEq, List.cons.injEq, PV.l.injEq, true_and, and_true] at hr0
          obtain ⟨⟨rfl, rfl⟩, rfl⟩ := hr0
          have hJw : Z.J pre CH PR w := Z.stab _ _ _ _ _ hJ ⟨S.chg.os, S.chg.tape, S.chg.output, S.chg.size, fun k hk hA => S.chg.block k hk (fun h => by
            have hp : PR k := Classical.byContradiction hA
            rcases h with h | h
            · exact (t7 k hp).2 h
            · omega)⟩
          have hargs : RL C'.fid γ w.heap (args.map a.eval) 0 (evs E sl args.toList) := evs_ok' (by rw [hE, hf]) (by rw [hG, hg]) S args
          have hlen : (evs E sl args.toList).length = args.size := by rw [evs_len]; simp
          obtain ⟨hRL, hasl⟩ := reifies_ok S hre (γ' := γ) ⟨fun _ _ h => h, fun _ _ h => h, fun o i b ho => by simp at ho⟩ hargs
          have him : ∀ b, γ.im b → b < w.heap.size ∧ ¬ CH b ∧ Z.IM b := by
            intro b hb
            refine ⟨S.lt b hb, fun hch => ?_, ?_⟩
            · obtain ⟨h1, h2⟩ := t8 b hch
              obtain ⟨h3, h4⟩ := t7 b h1
              rcases S.imn b hb with h | h | h
              · exact h2 h
              · exact h4 h
              · omega
            · rcases S.imn b hb with h | h | h
              · exact t9 b (.inl h)
              · exact t9 b (.inr (.inl h))
              · exact t9 b (.inr (.inr h))
          have hown : ∀ b, PR b → ¬ ownB γ b := by
            rintro b hb ⟨o, i, h1, h2⟩
            obtain ⟨h3, h4⟩ := t7 b hb
            rcases S.own o i b h1 h2 with h | h
            · exact h4 h
            · omega
          obtain ⟨fn, tm, as', bd, hy, hround⟩ := Z.round pre as rest' CH PR w γ (args.map a.eval) hpre hJw (by rw [← hf]; exact hRL) (by rw [Array.size_map, ← hlen, hasl]) hokT him
          have hfval : ∃ k, a.eval f = .func (.yield k) #[] #[] ∧ k = l := by
            have := ev_ok (by rw [hE, hf]) (by rw [hG, hg]) S f
            rw [hfv] at this
            simp only [RV, RAt] at this
            obtain ⟨j', hj', _, h⟩ := this
            rw [hj] at hj'
            injection hj' with hj'
            subst hj'
            obtain ⟨k, hk, hw⟩ := h
            exact ⟨k, by simpa using hk, by rw [hw hjv.symm, t3w]⟩
          obtain ⟨k, hfk, rfl⟩ := hfval
          refine ⟨fun _ _ => trivial, ?_⟩
          have hse : o.semAt Fence.wide.round a.eval = execOp a.eval o := Oper.semAt_none _ _
          have hex : (execOp a.eval o).run P w = .ok (.round k fn tm as' bd) w := by
            rw [hfe] at hfk
            simp [execOp, hop, resolve, Deferred.ofValue, hfk, invoke, hy]
          rw [hse, hex]
          refine ⟨fun h => by simp [Fence.wide] at h, RoundIn.mono hround ?_⟩
          rintro e w' ⟨CH', PR', q1, q2, q3, q4, q5⟩
          have fin : ∀ (b : Bool), ((b = true ∧ Z.J (pre ++ [as]) CH' PR' w') ∨ (b = false ∧ Z.Jx CH' PR' w')) → next (a.put o.dst (.bool b)) w' := by
            intro b hb
            let i2 : HI := ⟨n + 1, none, if b = true then 0 else 1, 0⟩
            let γ2 : Gh := { γ with mu := fun o => if o = 1 then some i2 else γ.mu o }
            have hx2 : ORel C'.fid γ2 w.heap { x with ver := n + 1 } i2 := by
              obtain ⟨_, g2, g3, _⟩ := hio
              refine ⟨rfl, fun c hc => by have := g2 c hc; rw [t5t] at this; exact this, by rw [t5t] at g3; exact g3, ?_⟩
              simp [i2]
            obtain ⟨_, _, S2⟩ := St.change (γ' := γ2) (w' := w) (u := [(1, { x with ver := n + 1 })]) S
              (fun o ho => by
                simp only [getO] at ho
                split at ho
                · cases ho
                · rename_i h; simp only [γ2]; rw [if_neg (fun e => h e.symm)])
              (fun o i' ho => by
                by_cases h : o = 1
                · subst h
                  rw [hi] at ho; injection ho with ho; subst ho
                  exact ⟨i2, by simp [γ2], .inr (by simp only [i2]; omega)⟩
                · exact ⟨i', by simp only [γ2]; rw [if_neg h]; exact ho, .inl rfl⟩)
              (fun b hb => ⟨hb, rfl⟩) rfl (fun o i' b _ _ _ => ⟨rfl, id⟩)
              (fun o y hy => by
                simp only [getO] at hy
                split at hy
                · rename_i h
                  injection hy with hy
                  subst hy; subst h
                  exact ⟨i2, by simp [γ2], hx2, fun b hb => by simp [i2] at hb⟩
                · cases hy)
              S.lt (fun b hb => .inl hb) (Chg.refl _ _)
            have hown2 : ∀ b, ownB γ2 b → ownB γ b := by
              rintro b ⟨o, i', h1, h2⟩
              simp only [γ2] at h1
              split at h1
              · injection h1 with h1; subst h1; simp [i2] at h2
              · exact ⟨o, i', h1, h2⟩
            have S3 := S2.rebase C'.kp q4 (fun b _ hb => ⟨(him b · |>.2.1 hb), fun h => hown b (t8 b hb).1 (hown2 b h)⟩)
            have S4 : St (C'.re γ2 w' C'.kp) γ2 w' a.tmps ((tslot, .y 1 (n + 1) 1) :: sl) ([(1, { x with ver := n + 1 })] ++ ob) := S3.tsl fun v => by
              simp only [RV, RAt]
              exact ⟨i2, by simp [γ2], by simp [i2], by simp [YR]⟩
            have hv2 : RV (C'.re γ2 w' C'.kp).fid γ2 w'.heap (.bool b) (.y 1 (n + 1) 2) := by
              simp only [RV, RAt]
              exact ⟨i2, by simp [γ2], by simp [i2], b, by simp, fun _ => by cases b <;> simp [i2]⟩
            have S5 : St (C'.re γ2 w' C'.kp) γ2 w' (a.put o.dst (.bool b)).tmps ((match o.dst with | some t => [(t, PV.y 1 (n + 1) 2)] | none => []) ++ (tslot, .y 1 (n + 1) 1) :: sl) ([(1, { x with ver := n + 1 })] ++ ob) := by
              have hd := hdst
              cases hdd : o.dst with
              | none => exact S4
              | some t => exact S4.put t (by rw [hs]; exact (hd t hdd).1) hv2
            refine hn _ γ2 w' _ _ (.tup [.un, .l g rest'], out) hK ⟨C'.re γ2 w' C'.kp, hf, hg, ?_, S5⟩
            refine ⟨by cases o.dst <;> exact t1, t2, ⟨j, by simp only [Ctx.re, γ2]; rw [if_neg (by omega)]; exact hj, hjv, t3w⟩, i2, by simp [Ctx.re, γ2], ⟨rfl, rfl⟩, ?_, CH', PR', ?_, ?_, ?_, ?_⟩
            · intro n' m e
              cases hdd : o.dst with
              | none =>
                rw [hdd] at e
                simp only [List.nil_append, getS_cons, if_true] at e
                injection e with _ e _
                exact e.symm
              | some t =>
                rw [hdd] at e
                have := (hdst t hdd).2
                simp only [List.cons_append, List.nil_append, getS_cons, if_true] at e
                rw [if_neg (fun e => absurd this (by rw [e]; exact Nat.lt_irrefl _))] at e
                injection e with _ e _
                exact e.symm
            · intro b' hb'
              obtain ⟨h1, h2⟩ := q2 b' hb'
              refine ⟨h2, fun h => ?_⟩
              have ho := hown2 b' h
              rcases h1 with h1 | h1 | h1
              · exact hown b' h1 ho
              · obtain ⟨o1, i1, g1, g2⟩ := ho
                obtain ⟨x1, hx1⟩ := S.dom o1 i1 g1
                exact S.unf o1 x1 i1 b' hx1 (warm_ok hwarm hx1) g1 g2 h1
              · obtain ⟨o1, i1, g1, g2⟩ := ho
                have := blk_lt S g1 g2; omega
            · intro b' hb'
              refine ⟨q3 b' hb', fun h => ?_⟩
              rcases q1 b' hb' with h1 | h1
              · exact (him b' h).2.1 h1
              · have := (him b' h).1; omega
            · rintro b' (h | h | h)
              · exact (him b' h).2.2
              · obtain ⟨o1, i1, g1, g2⟩ := hown2 b' h
                rcases S.own o1 i1 b' g1 g2 with h | h
                · exact t9 b' (.inr (.inl h))
                · exact t9 b' (.inr (.inr h))
              · exact t9 b' (.inr (.inr (Nat.le_trans S.chg.size (Nat.le_trans q4.size h))))
            · rcases hb with ⟨rfl, hJ'⟩ | ⟨rfl, hJ'⟩
              · exact .inl ⟨by simp [i2], pre ++ [as], rest', g, out, hJ', rfl, by rw [List.append_assoc]; exact hpre⟩
              · exact .inr ⟨by simp [i2], hJ'⟩
          rcases q5 with ⟨rfl, h⟩ | ⟨rfl, h⟩
          · exact fin true (.inl ⟨rfl, h⟩)
          · exact fin false (.inr ⟨rfl, h⟩)
        · cases H
      · cases H
    · cases H
  · cases H
end
end
section
open Go
def SoundI (P : Program) (fid : Nat → Nat) (glob : Nat → Option (List PV)) (Φ : Sem') : Prop :=
  ∀ (f0 : FuncId) (as : List PV) (os : List Obj') (g : Bool) (xs : List (List PV)), Φ (fid f0) as os = some (.tup [.un, .l g xs], []) → 2 ≤ os.length →
    ∀ (C : Ctx) (args : Array Value), C.fid = fid → C.glob = glob → args.size = as.length → os.length ≤ 64 → (∀ k, C.kp k ↔ k < 64) → St C C.g0 C.w0 args (zipN 0 as) (zipN 0 os) →
    ∀ (l nn : Nat) (Z : Rnd P fid xs l nn) (CH PR : Nat → Prop), (∃ i, C.g0.mu 0 = some i ∧ i.ver = 0 ∧ i.w = l) → C.g0.mu 1 = some ⟨0, none, 0, 0⟩ → (∀ b, PR b → b < C.w0.heap.size ∧ ¬ C.A b) → (∀ b, CH b → PR b ∧ ¬ C.g0.im b) → (∀ b, C.g0.im b ∨ C.A b ∨ C.w0.heap.size ≤ b → Z.IM b) → Z.J [] CH PR C.w0 →
      CallsIn Fence.wide (nn + 1) P f0 args C.w0 (fun e w' => (∃ v, e = .returned v) ∧ ((∃ CH PR, Z.J xs CH PR w') ∨ ∃ CH PR, Z.Jx CH PR w')) ∧ Bodied P f0
section
variable {P : Program} {E : Env} {C : Ctx}
def CHo (γ : Gh) (D l b : Nat) : Prop := (ownB γ b ∧ ¬ γ.im b) ∨ b = D ∨ b = l
def PRo (C : Ctx) (γ : Gh) (D l b : Nat) : Prop := ownB γ b ∨ b = D ∨ b = l ∨ γ.im b ∨ (b < C.w0.heap.size ∧ ¬ C.A b)
theorem own_cells {γ : Gh} {w : World} {tmps : Array Value} {sl : SL} {ob : OB} (S : St C γ w tmps sl ob) {b : Nat} (h : ownB γ b) : ∃ cs t fr, w.heap[b]? = some (.cells cs t fr) := by
  obtain ⟨o, i, h1, h2⟩ := h
  obtain ⟨x, hx⟩ := S.dom o i h1
  obtain ⟨i', h3, _, _, _, h4⟩ := S.obj o x hx
  rw [h1] at h3
  injection h3 with h3
  subst h3
  rw [h2] at h4
  obtain ⟨_, cs, ⟨t, fr, h5, _⟩, _⟩ := h4
  exact ⟨cs, t, fr, h5⟩
theorem Chg.put (w : World) (l : Nat) (o : Obj) : Chg (fun b => b = l) w (w.putObj l o) :=
  ⟨rfl, rfl, rfl, by simp, fun k _ hk => World.putObj_heap_other hk⟩
theorem Chg.allocs (w : World) (o : Obj) : Chg (fun _ => False) w (w.alloc o) :=
  ⟨rfl, rfl, rfl, by simp, fun k hk _ => by show (w.heap.push o)[k]? = _; rw [Array.getElem?_push, if_neg (Nat.ne_of_lt hk)]⟩
theorem Chg.weaken {A B : Nat → Prop} {w w' : World} (h : Chg A w w') (hAB : ∀ b, b < w.heap.size → A b → B b) : Chg B w w' :=
  ⟨h.os, h.tape, h.output, h.size, fun k hk hB => h.block k hk (fun hA => hB (hAB k hk hA))⟩
theorem okC_mono {fid : Nat → Nat} {γ γ' : Gh} {h h' : Array Obj} (hm : ∀ b, γ.im b → γ'.im b ∧ h'[b]? = h[b]?) {v : PV} (hv : okC v = true) {cs : Array Value} {off : Nat} (H : RAt fid γ h cs off v) : RAt fid γ' h' cs off v := by
  cases v <;> simp only [okC] at hv <;> first | (simpa only [RAt] using H) | (cases hv; done) | skip
  rename_i g xs
  cases g with
  | true => cases hv
  | false =>
    simp only [RAt] at H ⊢
    exact PAt_mono (fun b hb => ⟨⟨(hm b hb.1).1, fun h => by cases h⟩, (hm b hb.1).2⟩) _ _ _ H
theorem okT_mono {fid : Nat → Nat} {γ γ' : Gh} {h h' : Array Obj} (hm : ∀ b, γ.im b → γ'.im b ∧ h'[b]? = h[b]?) {v : PV} (hv : okT v = true) {x : Value} (H : RV fid γ h x v) : RV fid γ' h' x v := by
  by_cases ha : ∃ cs, v = .agg cs
  · obtain ⟨cs, rfl⟩ := ha
    simp only [okT] at hv
    obtain ⟨arr, e, hs, hR⟩ := RV_agg.1 H
    refine RV_agg.2 ⟨arr, e, hs, ?_⟩
    have key : ∀ (l : List PV) (off : Nat), l.all okC = true → RCells fid γ h arr off l → RCells fid γ' h' arr off l := by
      intro l
      induction l with
      | nil => intro off _ _; simp only [RCells]
      | cons v r ih =>
        intro off ho hR
        simp only [List.all_cons, Bool.and_eq_true] at ho
        simp only [RCells] at hR ⊢
        exact ⟨⟨hR.1.1, okC_mono hm ho.1 hR.1.2⟩, ih _ ho.2 hR.2⟩
    exact key cs 0 hv hR
  · have : okC v = true := by
      cases v <;> first | exact hv | exact absurd ⟨_, rfl⟩ ha
    exact okC_mono hm this H
theorem zipS_ok {γ : Gh} {w : World} {ob : OB} : ∀ (ps : List Tmp) (vals : List Value) (x : List PV) (tmps : Array Value) (sl : SL), St C γ w tmps sl ob → ps.length = x.length → vals.length = x.length → (∀ t ∈ ps, t < tmps.size) → (∀ (i : Nat) v y, x[i]? = some v → vals[i]? = some y → RV C.fid γ w.heap y v) →
    St C γ w ((ps.zip vals).foldl (fun t (p : Tmp × Value) => t.setIfInBounds p.1 p.2) tmps) (zipS ps x sl) ob ∧ ((ps.zip vals).foldl (fun t (p : Tmp × Value) => t.setIfInBounds p.1 p.2) tmps).size = tmps.size
  | [], vals, [], tmps, sl, S, _, _, _, _ => ⟨S, rfl⟩
  | p :: ps, v :: vals, x :: xs, tmps, sl, S, h1, h2, h3, h4 => by
    simp only [List.zip_cons_cons, List.foldl_cons, zipS]
    have S' := S.put p (h3 p (List.mem_cons_self ..)) (h4 0 x v rfl rfl)
    obtain ⟨g1, g2⟩ := zipS_ok ps vals xs _ _ S' (by simpa using h1) (by simpa using h2) (fun t ht => by simp; exact h3 t (List.mem_cons_of_mem _ ht)) (fun i a b ha hb => h4 (i + 1) a b (by simpa using ha) (by simpa using hb))
    exact ⟨g1, by rw [g2]; simp⟩
  | [], _, _ :: _, _, _, _, h, _, _, _ => by simp at h
  | _ :: _, _, [], _, _, _, h, _, _, _ => by simp at h
  | _ :: _, [], _ :: _, _, _, _, _, h, _, _ => by simp at h
theorem St.rekp {γ : Gh} {C : Ctx} {γ0 : Gh} {w0 w : World} {k1 k2 : Nat → Prop} {tmps : Array Value} {sl : SL} {ob : OB} (S : St (C.re γ0 w0 k1) γ w tmps sl ob) (h : ∀ k, k2 k → k1 k) : St (C.re γ0 w0 k2) γ w tmps sl ob :=
  ⟨S.slot, S.obj, S.dom, S.inj, S.unf, S.own, S.lt, S.glob, S.chg, S.gn, S.gnew, fun k i hk hi => S.kept k i (h k hk) hi, S.imk, S.imn, S.place, S.fresh⟩
end
end
section
open Go
structure JS (C' : Ctx) (tmps : Array Value) (D l : Nat) (lo : Loop) (γ : Gh) (sl : SL) (ob : OB) (CH PR : Nat → Prop) (W : World) : Prop where
  st : St C' γ W tmps sl ob
  ch : CH = CHo γ D l
  pr : PR = PRo C' γ D l
  imD : ¬ γ.im D
  iml : ¬ γ.im l
  hD : W.heap[D]? = some (.deferred (some []))
  hl : W.heap[l]? = some (.loop lo)
theorem JS.stab {C' : Ctx} {tmps : Array Value} {D l : Nat} {lo : Loop} {γ : Gh} {sl : SL} {ob : OB} {CH PR : Nat → Prop} {W W' : World} (h : JS C' tmps D l lo γ sl ob CH PR W) (hc : Chg (fun b => ¬ PR b) W W') : JS C' tmps D l lo γ sl ob CH PR W' := by
  have hD := (Array.getElem?_eq_some_iff.1 h.hD).1
  have hl := (Array.getElem?_eq_some_iff.1 h.hl).1
  have pr := h.pr
  refine ⟨h.st.same hc (fun b hb hn => ?_) (fun b hb hn => ?_), h.ch, h.pr, h.imD, h.iml, ?_, ?_⟩
  · exact Classical.byContradiction fun hA => hn (by rw [pr]; exact .inr (.inr (.inr (.inr ⟨hb, hA⟩))))
  · exact ⟨fun hi => hn (by rw [pr]; exact .inr (.inr (.inr (.inl hi)))), fun ho => hn (by rw [pr]; exact .inl ho)⟩
  · exact (hc.block D hD (fun hn => hn (by rw [pr]; exact .inr (.inl rfl)))).trans h.hD
  · exact (hc.block l hl (fun hn => hn (by rw [pr]; exact .inr (.inr (.inl rfl))))).trans h.hl
def jumpOf : Out → Option Code
  | .norm => none
  | .exit id => some (.exit id)
  | .goto l => some (.goto l)
  | .ret => some .ret
def recO (fn : FuncId) (tmps : Array Value) (ps : Array Tmp) (as c : Code) (D : Nat) (st : LoopState) (pe : Option Code) : Loop :=
  { state := st, pending := pe, fn, tmps, params := ps, assign := as, body := c, defers := D }
section
variable {P : Program} {E : Env} {C : Ctx}
theorem round_ok {Φ : Sem'} {N n M : Nat} {as c : Code} (hA : DenOK P E C Φ N n M as) (hB : DenOK P E C Φ N n M c) (hyp : E.yp = false) (hna : noHead as = true) (hnh : noHead c = true) {C' : Ctx} (hf : C'.fid = C.fid) (hg : C'.glob = C.glob) (hkp : ∀ k, C'.kp k → k < 64) {tmps : Array Value} (hM : tmps.size = M) {ps : Array Tmp} (hps : ∀ t ∈ ps.toList, t < M) {D l : Nat} (hDl : D ≠ l) (hlo : C'.w0.heap.size ≤ l) {fn : FuncId} {hd : Hd} {K : Kont} {r : R} {xs : List (List PV)} {nn : Nat}
    (pre : List (List PV)) (x : List PV) (rest' : List (List PV)) (CH PR : Nat → Prop) (W : World) (γi : Gh) (vals : Array Value) (hpre : pre ++ x :: rest' = xs)
    (hJ : ∃ γ sl ob rest, pre ++ rest = xs ∧ rounds' (fun g sl0 => den P E Φ N n as none (thenA (den P E Φ N n c none (rgK g K sl0)))) ps.toList hd (K .norm) rest sl ob = some r ∧ JS C' tmps D l (recO fn tmps ps as c D .ready none) γ sl ob CH PR W)
    (hR : RL C.fid γi W.heap vals 0 x) (hs : vals.size = x.length) (hok : x.all okT = true) (him : ∀ b, γi.im b → b < W.heap.size ∧ ¬ CH b ∧ (C'.g0.im b ∨ C'.A b ∨ C'.w0.heap.size ≤ b)) :
    YieldAt Fence.wide nn P l vals W fun e w' => ∃ CH' PR' : Nat → Prop, (∀ b, CH' b → CH b ∨ W.heap.size ≤ b) ∧ (∀ b, PR' b → (PR b ∨ γi.im b ∨ W.heap.size ≤ b) ∧ b < w'.heap.size) ∧ (∀ b, CH' b → PR' b) ∧ Chg CH W w' ∧
      ((e = .returned (.bool true) ∧ ∃ γ sl ob rest, (pre ++ [x]) ++ rest = xs ∧ rounds' (fun g sl0 => den P E Φ N n as none (thenA (den P E Φ N n c none (rgK g K sl0)))) ps.toList hd (K .norm) rest sl ob = some r ∧ JS C' tmps D l (recO fn tmps ps as c D .ready none) γ sl ob CH' PR' w') ∨
       (e = .returned (.bool false) ∧ ∃ γ sl ob o cj, jumpOf o = some cj ∧ K o sl ob = some r ∧ JS C' tmps D l (recO fn tmps ps as c D .done (some cj)) γ sl ob CH' PR' w')) := by
  obtain ⟨γ, sl, ob, rest, hpre', hrd, S, hCH, hPR, imD, iml, hD, hl⟩ := hJ
  have hre : rest = x :: rest' := List.append_cancel_left (hpre'.trans hpre.symm)
  subst hre
  simp only [rounds'] at hrd
  split at hrd
  case isFalse => cases hrd
  rename_i hlen
  subst hCH; subst hPR
  have hlW := (Array.getElem?_eq_some_iff.1 hl).1
  have hDW := (Array.getElem?_eq_some_iff.1 hD).1
  have ownl : ¬ ownB γ l := fun h => by obtain ⟨cs, t, fr, e⟩ := own_cells S h; rw [hl] at e; cases e
  have ownD : ¬ ownB γ D := fun h => by obtain ⟨cs, t, fr, e⟩ := own_cells S h; rw [hD] at e; cases e
  have Sa := S.moreIm (I := γi.im) (fun b hb => (him b hb).1) (fun o y i b hy hfr hi hb hI => (him b hI).2.1 (.inl ⟨⟨o, i, hi, hb⟩, S.unf o y i b hy hfr hi hb⟩)) (fun b hb => (him b hb).2.2)
  obtain ⟨γa, hγa⟩ : ∃ γa : Gh, { γ with im := fun b => γ.im b ∨ γi.im b } = γa := ⟨_, rfl⟩
  rw [hγa] at Sa
  have amu : γa.mu = γ.mu := by rw [← hγa]
  have aim : ∀ b, γa.im b ↔ γ.im b ∨ γi.im b := fun b => by rw [← hγa]
  have aown : ∀ b, ownB γa b ↔ ownB γ b := fun b => by unfold ownB; rw [amu]
  have hval : ∀ (i : Nat) v y, x[i]? = some v → vals.toList[i]? = some y → RV C'.fid γa W.heap y v := by
    intro i v y hv hy
    obtain ⟨y', hy', H⟩ := RL_get i v hR hv
    rw [Nat.zero_add] at hy'
    rw [Array.getElem?_toList] at hy
    rw [hy'] at hy
    injection hy with hy
    subst hy
    rw [hf]
    exact okT_mono (fun b hb => ⟨(aim b).2 (.inr hb), rfl⟩) (List.all_eq_true.1 hok v (List.mem_of_getElem? hv)) H
  obtain ⟨Sz, hsz⟩ := zipS_ok ps.toList vals.toList x tmps sl Sa hlen.symm (by simp [hs]) (fun t ht => by rw [hM]; exact hps t ht) hval
  have hfold : (ps.zip vals).foldl (fun t (p : Tmp × Value) => t.setIfInBounds p.1 p.2) tmps = (ps.toList.zip vals.toList).foldl (fun t (p : Tmp × Value) => t.setIfInBounds p.1 p.2) tmps := by
    rw [← Array.foldl_toList, Array.toList_zip]
  have hy := run_yield (P := P) (args := vals) hl (by simp only [recO]; rw [hs, hlen]; simp)
  have iml' : ¬ γa.im l := fun h => ((aim l).1 h).elim iml (fun h => (him l h).2.1 (.inr (.inr rfl)))
  have imD' : ¬ γa.im D := fun h => ((aim D).1 h).elim imD (fun h => (him D h).2.1 (.inr (.inl rfl)))
  have Sz1 := Sz.rebase (fun _ => True) (Chg.refl (fun _ => False) W) (fun _ _ h => h.elim)
  have X1 : Ext C' (C'.re γa W (fun _ => True)) := (Ext.refl' Sz).rebase Sz (fun _ _ => trivial) (Chg.refl (fun _ => False) W) (fun _ _ h => h.elim) (fun _ _ h => h.elim)
  have runA := (hA nn (Fence.wide.inRound l) (.inr ⟨l, rfl⟩) (fun C'' ds r' _ => r' = r ∧ ds = [] ∧ Ext (C'.re γa W (fun _ => True)) C'') (fun _ _ _ _ _ _ h => h) (fun h => by rw [hyp] at h; cases h) (fun h => by rw [hna] at h; cases h)).1 _ _ ob { tmps := (ps.zip vals).foldl (fun t (p : Tmp × Value) => t.setIfInBounds p.1 p.2) tmps, defers := [] } γa W r hrd (by simp only [hfold]; rw [hsz]; exact hM) ⟨C'.re γa W (fun _ => True), hf, hg, ⟨rfl, rfl, Ext.refl' Sz1⟩, by rw [hfold]; exact Sz1⟩
  refine ⟨fn, _, as, c, hy, roundIn_of_wpIn trivial (wpIn_mono runA ?_)⟩
  rintro e a1 W1 ⟨hs1, o1, sl1, ob1, γ1, r1, he1, hK1, C1, hf1, hg1, ⟨hr1, hds1, XA⟩, SA⟩
  subst hr1; subst he1
  have S1 := SA.unext XA
  obtain rfl : o1 = .norm := by cases o1 <;> first | rfl | (simp [thenA] at hK1)
  simp only [thenA] at hK1
  have own1 : ∀ b, ownB γ1 b → ownB γ b ∨ W.heap.size ≤ b := by
    rintro b ⟨p, i, h1, h2⟩
    rcases S1.own p i b h1 h2 with h | h
    · exact .inl ((aown b).1 h)
    · exact .inr h
  have im1 : ∀ b, γ1.im b → γ.im b ∨ γi.im b ∨ ownB γ b ∨ W.heap.size ≤ b := by
    intro b hb
    rcases S1.imn b hb with h | h | h
    · rcases (aim b).1 h with h | h
      · exact .inl h
      · exact .inr (.inl h)
    · exact .inr (.inr (.inl ((aown b).1 h)))
    · exact .inr (.inr (.inr h))
  have ownl1 : ¬ ownB γ1 l := fun h => (own1 l h).elim ownl (fun h => by omega)
  have ownD1 : ¬ ownB γ1 D := fun h => (own1 D h).elim ownD (fun h => by omega)
  have iml1 : ¬ γ1.im l := fun h => by
    rcases im1 l h with h | h | h | h
    · exact iml h
    · exact (him l h).2.1 (.inr (.inr rfl))
    · exact ownl h
    · omega
  have imD1 : ¬ γ1.im D := fun h => by
    rcases im1 D h with h | h | h | h
    · exact imD h
    · exact (him D h).2.1 (.inr (.inl rfl))
    · exact ownD h
    · omega
  have keepA : ∀ b, b < W.heap.size → ¬ ownB γ b → W1.heap[b]? = W.heap[b]? := fun b hb ho => S1.chg.block b hb (fun h => h.elim (fun h => ho ((aown b).1 h)) (fun h => by change W.heap.size ≤ b at h; omega))
  have hl1 := (keepA l hlW ownl).trans hl
  have hD1 := (keepA D hDW ownD).trans hD
  have hl1W := (Array.getElem?_eq_some_iff.1 hl1).1
  have hD1W := (Array.getElem?_eq_some_iff.1 hD1).1
  have hle1 : W.heap.size ≤ W1.heap.size := S1.chg.size
  refine ⟨_, run_beginRound hl1 rfl, ?_⟩
  obtain ⟨W2, hW2⟩ : ∃ W2, W1.putObj l (.loop { recO fn tmps ps as c D .ready none with state := .busy }) = W2 := ⟨_, rfl⟩
  rw [hW2]
  have hc2 : Chg (fun b => b = l) W1 W2 := by rw [← hW2]; exact Chg.put _ _ _
  have hl2 : W2.heap[l]? = some (.loop { recO fn tmps ps as c D .ready none with state := .busy }) := by rw [← hW2]; exact World.putObj_heap_same hl1W
  have hD2 : W2.heap[D]? = some (.deferred (some [])) := by rw [← hW2]; exact (World.putObj_heap_other hDl).trans hD1
  have hs2 : W2.heap.size = W1.heap.size := by rw [← hW2]; simp
  have q2 : ∀ b, b < W1.heap.size → b = l → ¬ γ1.im b ∧ ¬ ownB γ1 b := fun b _ e => by subst e; exact ⟨iml1, ownl1⟩
  have Q2 : ∀ b, b < C'.w0.heap.size → b = l → C'.A b := fun b h e => by omega
  have Sb := S1.rebase (fun _ => True) hc2 q2
  have Xb : Ext C' (C'.re γ1 W2 (fun k => k < 64)) := X1.rebase S1 hkp hc2 Q2 q2
  have run := (hB nn (Fence.wide.inRound l) (.inr ⟨l, rfl⟩) (fun C'' ds r' _ => r' = r1 ∧ ds = [] ∧ Ext (C'.re γ1 W2 (fun _ => True)) C'') (fun _ _ _ _ _ _ h => h) (fun h => by rw [hyp] at h; cases h) (fun h => by rw [hnh] at h; cases h)).1 _ sl1 ob1 a1 γ1 W2 r1 hK1 hs1 ⟨C'.re γ1 W2 (fun _ => True), hf, hg, ⟨rfl, hds1, Ext.refl' Sb⟩, Sb⟩
  refine wpIn_mono run ?_
  rintro e a3 W3 ⟨_, o, sl3, ob3, γ3, r3, he, hK, C3, hf3, hg3, ⟨hr3, _, X3⟩, S3⟩
  subst hr3; subst he
  have S3' := S3.unext X3
  have hback : St (C'.re γ1 W2 (fun _ => True)) γ3 W3 tmps sl ob3 := S3'.slots fun t => by
    refine RAt_mono ⟨fun p _ i hi => ?_, fun g b hb => ?_⟩ (S.slot t)
    · obtain ⟨i1, h1, h2⟩ := S1.kept p i trivial (by simp only [Ctx.re]; rw [amu]; exact hi)
      obtain ⟨i2, h3, h4⟩ := S3'.kept p i1 trivial h1
      refine ⟨i2, h3, ?_⟩
      rcases h2 with rfl | h2
      · exact h4
      · rcases h4 with rfl | h4
        · exact .inr h2
        · exact .inr (by omega)
    · obtain ⟨h1, h2⟩ := S1.imk b ((aim b).2 (.inl hb.1))
      obtain ⟨h3, h4⟩ := S3'.imk b h1
      refine ⟨⟨h3, fun e => ?_⟩, h4.trans ((hc2.block b (S1.lt b h1) (fun e => iml1 (e ▸ h1))).trans h2)⟩
      have := hb.2 e
      rw [S.gn] at this
      rw [S3'.gn]; exact this
  have keepB : ∀ b, b < W1.heap.size → ¬ ownB γ1 b → W3.heap[b]? = W2.heap[b]? := fun b hb ho => S3'.chg.block b (by show b < W2.heap.size; rw [hs2]; exact hb) (fun h => h.elim (fun h => ho h) (fun h => by change W2.heap.size ≤ b at h; omega))
  have hl3 := (keepB l hl1W ownl1).trans hl2
  have hD3 := (keepB D hD1W ownD1).trans hD2
  have hl3W := (Array.getElem?_eq_some_iff.1 hl3).1
  have hD3W := (Array.getElem?_eq_some_iff.1 hD3).1
  have fin : ∀ (jump : Option Code) (γ4 : Gh) (sl4 : SL) (ob4 : OB), St (C'.re γ1 W2 (fun k => k < 64)) γ4 W3 tmps sl4 ob4 → ∃ W4,
      (Instr.endRound l jump).run P W3 = .ok (.bool jump.isNone) W4 ∧ (∀ b, CHo γ4 D l b → CHo γ D l b ∨ W.heap.size ≤ b) ∧ (∀ b, PRo C' γ4 D l b → (PRo C' γ D l b ∨ γi.im b ∨ W.heap.size ≤ b) ∧ b < W4.heap.size) ∧ (∀ b, CHo γ4 D l b → PRo C' γ4 D l b) ∧ Chg (CHo γ D l) W W4 ∧
      JS C' tmps D l (recO fn tmps ps as c D (if jump.isNone then .ready else .done) jump) γ4 sl4 ob4 (CHo γ4 D l) (PRo C' γ4 D l) W4 := by
    intro jump γ4 sl4 ob4 S4
    have own4 : ∀ b, ownB γ4 b → ownB γ b ∨ W.heap.size ≤ b := by
      rintro b ⟨p, i, h1, h2⟩
      rcases S4.own p i b h1 h2 with h | h
      · exact own1 b h
      · change W2.heap.size ≤ b at h; rw [hs2] at h; exact .inr (Nat.le_trans hle1 h)
    have im4 : ∀ b, γ4.im b → γ.im b ∨ γi.im b ∨ ownB γ b ∨ W.heap.size ≤ b := by
      intro b hb
      rcases S4.imn b hb with h | h | h
      · exact im1 b h
      · exact .inr (.inr (own1 b h))
      · change W2.heap.size ≤ b at h; rw [hs2] at h; exact .inr (.inr (.inr (Nat.le_trans hle1 h)))
    have imD4 : ¬ γ4.im D := fun h => by
      rcases im4 D h with h | h | h | h
      · exact imD h
      · exact (him D h).2.1 (.inr (.inl rfl))
      · exact ownD h
      · omega
    have iml4 : ¬ γ4.im l := fun h => by
      rcases im4 l h with h | h | h | h
      · exact iml h
      · exact (him l h).2.1 (.inr (.inr rfl))
      · exact ownl h
      · omega
    have ownl4 : ¬ ownB γ4 l := fun h => by
      rcases own4 l h with h | h
      · exact ownl h
      · omega
    have hle : W.heap.size ≤ W3.heap.size := by have := S3'.chg.size; change W2.heap.size ≤ _ at this; omega
    have hc4 : Chg (fun b => b = l) W3 (W3.putObj l (.loop (recO fn tmps ps as c D (if jump.isNone then .ready else .done) jump))) := Chg.put _ _ _
    refine ⟨_, run_endRound (P := P) jump hl3, ?_, ?_, ?_, ?_, ?_⟩
    · rintro b (⟨h1, h2⟩ | h | h)
      · rcases own4 b h1 with h | h
        · exact .inl (.inl ⟨h, fun hi => h2 (S4.imk b (S1.imk b ((aim b).2 (.inl hi))).1).1⟩)
        · exact .inr h
      · exact .inl (.inr (.inl h))
      · exact .inl (.inr (.inr h))
    · intro b hb
      rw [World.putObj_size]
      rcases hb with h | h | h | h | h
      · refine ⟨?_, let ⟨p, i, h1, h2⟩ := h; blk_lt S4 h1 h2⟩
        rcases own4 b h with h | h
        · exact .inl (.inl h)
        · exact .inr (.inr h)
      · exact ⟨.inl (.inr (.inl h)), by subst h; exact hD3W⟩
      · exact ⟨.inl (.inr (.inr (.inl h))), by subst h; exact hl3W⟩
      · refine ⟨?_, S4.lt b h⟩
        rcases im4 b h with h | h | h | h
        · exact .inl (.inr (.inr (.inr (.inl h))))
        · exact .inr (.inl h)
        · exact .inl (.inl h)
        · exact .inr (.inr h)
      · exact ⟨.inl (.inr (.inr (.inr (.inr h)))), by have := S.chg.size; omega⟩
    · rintro b (⟨h1, _⟩ | h | h)
      · exact .inl h1
      · exact .inr (.inl h)
      · exact .inr (.inr (.inl h))
    · refine ⟨hc4.os.trans (S3'.chg.os.trans (hc2.os.trans S1.chg.os)), hc4.tape.trans (S3'.chg.tape.trans (hc2.tape.trans S1.chg.tape)), hc4.output.trans (S3'.chg.output.trans (hc2.output.trans S1.chg.output)), Nat.le_trans hle hc4.size, fun k hk hn => ?_⟩
      have hkl : k ≠ l := fun e => hn (.inr (.inr e))
      refine (hc4.block k (by omega) hkl).trans ?_
      by_cases hi : γ.im k
      · obtain ⟨h1, h2⟩ := S1.imk k ((aim k).2 (.inl hi))
        exact (S3'.imk k h1).2.trans ((hc2.block k (by omega) hkl).trans h2)
      · have ho : ¬ ownB γ k := fun ho => hn (.inl ⟨ho, hi⟩)
        exact (keepB k (by omega) (fun h => (own1 k h).elim ho (fun h => by omega))).trans ((hc2.block k (by omega) hkl).trans (keepA k hk ho))
    · exact ⟨(S4.unext Xb).same hc4 Q2 (fun b _ e => by subst e; exact ⟨iml4, ownl4⟩), rfl, rfl, imD4, iml4, (World.putObj_heap_other hDl).trans hD3, World.putObj_heap_same hl3W⟩
  have S4 : St (C'.re γ1 W2 (fun k => k < 64)) γ3 W3 tmps sl ob3 := hback.rekp (fun _ _ => trivial)
  cases o with
  | norm =>
    simp only [rgK] at hK
    unfold normK at hK
    obtain ⟨y, hy4, hK⟩ := bnd_some hK
    obtain ⟨γ4, S5⟩ := headH_ok (fun _ h => h) S4 hy4
    obtain ⟨W4, g1, g2, g3, g4, g5, g6⟩ := fin none γ4 y.1 y.2 S5
    exact ⟨_, W4, g1, _, _, g2, g3, g4, g5, .inl ⟨rfl, γ4, y.1, y.2, rest', by rw [List.append_assoc]; exact hpre, hK, g6⟩⟩
  | exit id =>
    obtain ⟨W4, g1, g2, g3, g4, g5, g6⟩ := fin (some (.exit id)) γ3 sl ob3 S4
    exact ⟨_, W4, g1, _, _, g2, g3, g4, g5, .inr ⟨rfl, γ3, sl, ob3, .exit id, _, rfl, hK, g6⟩⟩
  | goto t =>
    obtain ⟨W4, g1, g2, g3, g4, g5, g6⟩ := fin (some (.goto t)) γ3 sl ob3 S4
    exact ⟨_, W4, g1, _, _, g2, g3, g4, g5, .inr ⟨rfl, γ3, sl, ob3, .goto t, _, rfl, hK, g6⟩⟩
  | ret =>
    obtain ⟨W4, g1, g2, g3, g4, g5, g6⟩ := fin (some .ret) γ3 sl ob3 S4
    exact ⟨_, W4, g1, _, _, g2, g3, g4, g5, .inr ⟨rfl, γ3, sl, ob3, .ret, _, rfl, hK, g6⟩⟩
end
end
end Go.Proofs.YtmhpkdcnhgmblaaDoor
