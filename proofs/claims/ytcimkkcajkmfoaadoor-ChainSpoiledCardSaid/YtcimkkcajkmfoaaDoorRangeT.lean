/-
  A loop over a function: one round, and the loop.
-/
import Derived.Test.YtcimkkcajkmfoaaDoorRangeS
set_option linter.all false
namespace Go.Proofs.YtcimkkcajkmfoaaDoor
open Go

/-- What a loop's function is called with, between two rounds or behind the last one. -/
structure JS (C' : Ctx) (tmps : Array Value) (D l : Nat) (lo : Loop) (γ : Gh) (sl : SL) (ob : OB) (CH PR : Nat → Prop) (W : World) : Prop where
  st : St C' γ W tmps sl ob
  ch : CH = CHo γ D l
  pr : PR = PRo C' γ D l
  imD : ¬ γ.im D
  iml : ¬ γ.im l
  hD : W.heap[D]? = some (.deferred (some []))
  hl : W.heap[l]? = some (.loop lo)
theorem JS.stab {C' : Ctx} {tmps : Array Value} {D l : Nat} {lo : Loop} {γ : Gh} {sl : SL} {ob : OB} {CH PR : Nat → Prop} {W W' : World} (h : JS C' tmps D l lo γ sl ob CH PR W) (hc : Chg (fun b => ¬ PR b) W W') : JS C' tmps D l lo γ sl ob CH PR W' := by
  have hD := (Array.getElem?_eq_some_iff.1 h.hD).1
  have hl := (Array.getElem?_eq_some_iff.1 h.hl).1
  have pr := h.pr
  refine ⟨h.st.same hc (fun b hb hn => ?_) (fun b hb hn => ?_), h.ch, h.pr, h.imD, h.iml, ?_, ?_⟩
  · exact Classical.byContradiction fun hA => hn (by rw [pr]; exact .inr (.inr (.inr (.inr ⟨hb, hA⟩))))
  · exact ⟨fun hi => hn (by rw [pr]; exact .inr (.inr (.inr (.inl hi)))), fun ho => hn (by rw [pr]; exact .inl ho)⟩
  · exact (hc.block D hD (fun hn => hn (by rw [pr]; exact .inr (.inl rfl)))).trans h.hD
  · exact (hc.block l hl (fun hn => hn (by rw [pr]; exact .inr (.inr (.inl rfl))))).trans h.hl
def jumpOf : Out → Option Code
  | .norm => none
  | .exit id => some (.exit id)
  | .goto l => some (.goto l)
  | .ret => some .ret
def recO (fn : FuncId) (tmps : Array Value) (ps : Array Tmp) (as c : Code) (D : Nat) (st : LoopState) (pe : Option Code) : Loop :=
  { state := st, pending := pe, fn, tmps, params := ps, assign := as, body := c, defers := D }
section
variable {P : Program} {E : Env} {C : Ctx}
theorem round_ok {Φ : Sem'} {N n M : Nat} {as c : Code} (hA : DenOK P E C Φ N n M as) (hB : DenOK P E C Φ N n M c) (hyp : E.yp = false) (hna : noHead as = true) (hnh : noHead c = true) {C' : Ctx} (hf : C'.fid = C.fid) (hg : C'.glob = C.glob) (hkp : ∀ k, C'.kp k → k < 64) {tmps : Array Value} (hM : tmps.size = M) {ps : Array Tmp} (hps : ∀ t ∈ ps.toList, t < M) {D l : Nat} (hDl : D ≠ l) (hlo : C'.w0.heap.size ≤ l) {fn : FuncId} {hd : Hd} {K : Kont} {r : R} {xs : List (List PV)} {nn : Nat}
    (pre : List (List PV)) (x : List PV) (rest' : List (List PV)) (CH PR : Nat → Prop) (W : World) (γi : Gh) (vals : Array Value) (hpre : pre ++ x :: rest' = xs)
    (hJ : ∃ γ sl ob rest, pre ++ rest = xs ∧ rounds' (fun g sl0 => den P E Φ N n as none (thenA (den P E Φ N n c none (rgK g K sl0)))) ps.toList hd (K .norm) rest sl ob = some r ∧ JS C' tmps D l (recO fn tmps ps as c D .ready none) γ sl ob CH PR W)
    (hR : RL C.fid γi W.heap vals 0 x) (hs : vals.size = x.length) (hok : x.all okT = true) (him : ∀ b, γi.im b → b < W.heap.size ∧ ¬ CH b ∧ (C'.g0.im b ∨ C'.A b ∨ C'.w0.heap.size ≤ b)) :
    YieldAt Fence.wide nn P l vals W fun e w' => ∃ CH' PR' : Nat → Prop, (∀ b, CH' b → CH b ∨ W.heap.size ≤ b) ∧ (∀ b, PR' b → (PR b ∨ γi.im b ∨ W.heap.size ≤ b) ∧ b < w'.heap.size) ∧ (∀ b, CH' b → PR' b) ∧ Chg CH W w' ∧
      ((e = .returned (.bool true) ∧ ∃ γ sl ob rest, (pre ++ [x]) ++ rest = xs ∧ rounds' (fun g sl0 => den P E Φ N n as none (thenA (den P E Φ N n c none (rgK g K sl0)))) ps.toList hd (K .norm) rest sl ob = some r ∧ JS C' tmps D l (recO fn tmps ps as c D .ready none) γ sl ob CH' PR' w') ∨
       (e = .returned (.bool false) ∧ ∃ γ sl ob o cj, jumpOf o = some cj ∧ K o sl ob = some r ∧ JS C' tmps D l (recO fn tmps ps as c D .done (some cj)) γ sl ob CH' PR' w')) := by
  obtain ⟨γ, sl, ob, rest, hpre', hrd, S, hCH, hPR, imD, iml, hD, hl⟩ := hJ
  have hre : rest = x :: rest' := List.append_cancel_left (hpre'.trans hpre.symm)
  subst hre
  simp only [rounds'] at hrd
  split at hrd
  case isFalse => cases hrd
  rename_i hlen
  subst hCH; subst hPR
  have hlW := (Array.getElem?_eq_some_iff.1 hl).1
  have hDW := (Array.getElem?_eq_some_iff.1 hD).1
  have ownl : ¬ ownB γ l := fun h => by obtain ⟨cs, t, fr, e⟩ := own_cells S h; rw [hl] at e; cases e
  have ownD : ¬ ownB γ D := fun h => by obtain ⟨cs, t, fr, e⟩ := own_cells S h; rw [hD] at e; cases e
  have Sa := S.moreIm (I := γi.im) (fun b hb => (him b hb).1) (fun o y i b hy hfr hi hb hI => (him b hI).2.1 (.inl ⟨⟨o, i, hi, hb⟩, S.unf o y i b hy hfr hi hb⟩)) (fun b hb => (him b hb).2.2)
  obtain ⟨γa, hγa⟩ : ∃ γa : Gh, { γ with im := fun b => γ.im b ∨ γi.im b } = γa := ⟨_, rfl⟩
  rw [hγa] at Sa
  have amu : γa.mu = γ.mu := by rw [← hγa]
  have aim : ∀ b, γa.im b ↔ γ.im b ∨ γi.im b := fun b => by rw [← hγa]
  have aown : ∀ b, ownB γa b ↔ ownB γ b := fun b => by unfold ownB; rw [amu]
  have hval : ∀ (i : Nat) v y, x[i]? = some v → vals.toList[i]? = some y → RV C'.fid γa W.heap y v := by
    intro i v y hv hy
    obtain ⟨y', hy', H⟩ := RL_get i v hR hv
    rw [Nat.zero_add] at hy'
    rw [Array.getElem?_toList] at hy
    rw [hy'] at hy
    injection hy with hy
    subst hy
    rw [hf]
    exact okT_mono (fun b hb => ⟨(aim b).2 (.inr hb), rfl⟩) (List.all_eq_true.1 hok v (List.mem_of_getElem? hv)) H
  obtain ⟨Sz, hsz⟩ := zipS_ok ps.toList vals.toList x tmps sl Sa hlen.symm (by simp [hs]) (fun t ht => by rw [hM]; exact hps t ht) hval
  have hfold : (ps.zip vals).foldl (fun t (p : Tmp × Value) => t.setIfInBounds p.1 p.2) tmps = (ps.toList.zip vals.toList).foldl (fun t (p : Tmp × Value) => t.setIfInBounds p.1 p.2) tmps := by
    rw [← Array.foldl_toList, Array.toList_zip]
  have hy := run_yield (P := P) (args := vals) hl (by simp only [recO]; rw [hs, hlen]; simp)
  have iml' : ¬ γa.im l := fun h => ((aim l).1 h).elim iml (fun h => (him l h).2.1 (.inr (.inr rfl)))
  have imD' : ¬ γa.im D := fun h => ((aim D).1 h).elim imD (fun h => (him D h).2.1 (.inr (.inl rfl)))
  -- the loop's variables
  have Sz1 := Sz.rebase (fun _ => True) (Chg.refl (fun _ => False) W) (fun _ _ h => h.elim)
  have X1 : Ext C' (C'.re γa W (fun _ => True)) := (Ext.refl' Sz).rebase Sz (fun _ _ => trivial) (Chg.refl (fun _ => False) W) (fun _ _ h => h.elim) (fun _ _ h => h.elim)
  have runA := (hA nn (Fence.wide.inRound l) (.inr ⟨l, rfl⟩) (fun C'' ds r' _ => r' = r ∧ ds = [] ∧ Ext (C'.re γa W (fun _ => True)) C'') (fun _ _ _ _ _ _ h => h) (fun h => by rw [hyp] at h; cases h) (fun h => by rw [hna] at h; cases h)).1 _ _ ob { tmps := (ps.zip vals).foldl (fun t (p : Tmp × Value) => t.setIfInBounds p.1 p.2) tmps, defers := [] } γa W r hrd (by simp only [hfold]; rw [hsz]; exact hM) ⟨C'.re γa W (fun _ => True), hf, hg, ⟨rfl, rfl, Ext.refl' Sz1⟩, by rw [hfold]; exact Sz1⟩
  refine ⟨fn, _, as, c, hy, roundIn_of_wpIn trivial (wpIn_mono runA ?_)⟩
  rintro e a1 W1 ⟨hs1, o1, sl1, ob1, γ1, r1, he1, hK1, C1, hf1, hg1, ⟨hr1, hds1, XA⟩, SA⟩
  subst hr1; subst he1
  have S1 := SA.unext XA
  obtain rfl : o1 = .norm := by cases o1 <;> first | rfl | (simp [thenA] at hK1)
  simp only [thenA] at hK1
  have own1 : ∀ b, ownB γ1 b → ownB γ b ∨ W.heap.size ≤ b := by
    rintro b ⟨p, i, h1, h2⟩
    rcases S1.own p i b h1 h2 with h | h
    · exact .inl ((aown b).1 h)
    · exact .inr h
  have im1 : ∀ b, γ1.im b → γ.im b ∨ γi.im b ∨ ownB γ b ∨ W.heap.size ≤ b := by
    intro b hb
    rcases S1.imn b hb with h | h | h
    · rcases (aim b).1 h with h | h
      · exact .inl h
      · exact .inr (.inl h)
    · exact .inr (.inr (.inl ((aown b).1 h)))
    · exact .inr (.inr (.inr h))
  have ownl1 : ¬ ownB γ1 l := fun h => (own1 l h).elim ownl (fun h => by omega)
  have ownD1 : ¬ ownB γ1 D := fun h => (own1 D h).elim ownD (fun h => by omega)
  have iml1 : ¬ γ1.im l := fun h => by
    rcases im1 l h with h | h | h | h
    · exact iml h
    · exact (him l h).2.1 (.inr (.inr rfl))
    · exact ownl h
    · omega
  have imD1 : ¬ γ1.im D := fun h => by
    rcases im1 D h with h | h | h | h
    · exact imD h
    · exact (him D h).2.1 (.inr (.inl rfl))
    · exact ownD h
    · omega
  have keepA : ∀ b, b < W.heap.size → ¬ ownB γ b → W1.heap[b]? = W.heap[b]? := fun b hb ho => S1.chg.block b hb (fun h => h.elim (fun h => ho ((aown b).1 h)) (fun h => by change W.heap.size ≤ b at h; omega))
  have hl1 := (keepA l hlW ownl).trans hl
  have hD1 := (keepA D hDW ownD).trans hD
  have hl1W := (Array.getElem?_eq_some_iff.1 hl1).1
  have hD1W := (Array.getElem?_eq_some_iff.1 hD1).1
  have hle1 : W.heap.size ≤ W1.heap.size := S1.chg.size
  refine ⟨_, run_beginRound hl1 rfl, ?_⟩
  obtain ⟨W2, hW2⟩ : ∃ W2, W1.putObj l (.loop { recO fn tmps ps as c D .ready none with state := .busy }) = W2 := ⟨_, rfl⟩
  rw [hW2]
  have hc2 : Chg (fun b => b = l) W1 W2 := by rw [← hW2]; exact Chg.put _ _ _
  have hl2 : W2.heap[l]? = some (.loop { recO fn tmps ps as c D .ready none with state := .busy }) := by rw [← hW2]; exact World.putObj_heap_same hl1W
  have hD2 : W2.heap[D]? = some (.deferred (some [])) := by rw [← hW2]; exact (World.putObj_heap_other hDl).trans hD1
  have hs2 : W2.heap.size = W1.heap.size := by rw [← hW2]; simp
  have q2 : ∀ b, b < W1.heap.size → b = l → ¬ γ1.im b ∧ ¬ ownB γ1 b := fun b _ e => by subst e; exact ⟨iml1, ownl1⟩
  have Q2 : ∀ b, b < C'.w0.heap.size → b = l → C'.A b := fun b h e => by omega
  have Sb := S1.rebase (fun _ => True) hc2 q2
  have Xb : Ext C' (C'.re γ1 W2 (fun k => k < 64)) := X1.rebase S1 hkp hc2 Q2 q2
  have run := (hB nn (Fence.wide.inRound l) (.inr ⟨l, rfl⟩) (fun C'' ds r' _ => r' = r1 ∧ ds = [] ∧ Ext (C'.re γ1 W2 (fun _ => True)) C'') (fun _ _ _ _ _ _ h => h) (fun h => by rw [hyp] at h; cases h) (fun h => by rw [hnh] at h; cases h)).1 _ sl1 ob1 a1 γ1 W2 r1 hK1 hs1 ⟨C'.re γ1 W2 (fun _ => True), hf, hg, ⟨rfl, hds1, Ext.refl' Sb⟩, Sb⟩
  refine wpIn_mono run ?_
  rintro e a3 W3 ⟨_, o, sl3, ob3, γ3, r3, he, hK, C3, hf3, hg3, ⟨hr3, _, X3⟩, S3⟩
  subst hr3; subst he
  have S3' := S3.unext X3
  have hback : St (C'.re γ1 W2 (fun _ => True)) γ3 W3 tmps sl ob3 := S3'.slots fun t => by
    refine RAt_mono ⟨fun p _ i hi => ?_, fun g b hb => ?_⟩ (S.slot t)
    · obtain ⟨i1, h1, h2⟩ := S1.kept p i trivial (by simp only [Ctx.re]; rw [amu]; exact hi)
      obtain ⟨i2, h3, h4⟩ := S3'.kept p i1 trivial h1
      refine ⟨i2, h3, ?_⟩
      rcases h2 with rfl | h2
      · exact h4
      · rcases h4 with rfl | h4
        · exact .inr h2
        · exact .inr (by omega)
    · obtain ⟨h1, h2⟩ := S1.imk b ((aim b).2 (.inl hb.1))
      obtain ⟨h3, h4⟩ := S3'.imk b h1
      refine ⟨⟨h3, fun e => ?_⟩, h4.trans ((hc2.block b (S1.lt b h1) (fun e => iml1 (e ▸ h1))).trans h2)⟩
      have := hb.2 e
      rw [S.gn] at this
      rw [S3'.gn]; exact this
  have keepB : ∀ b, b < W1.heap.size → ¬ ownB γ1 b → W3.heap[b]? = W2.heap[b]? := fun b hb ho => S3'.chg.block b (by show b < W2.heap.size; rw [hs2]; exact hb) (fun h => h.elim (fun h => ho h) (fun h => by change W2.heap.size ≤ b at h; omega))
  have hl3 := (keepB l hl1W ownl1).trans hl2
  have hD3 := (keepB D hD1W ownD1).trans hD2
  have hl3W := (Array.getElem?_eq_some_iff.1 hl3).1
  have hD3W := (Array.getElem?_eq_some_iff.1 hD3).1
  have fin : ∀ (jump : Option Code) (γ4 : Gh) (sl4 : SL) (ob4 : OB), St (C'.re γ1 W2 (fun k => k < 64)) γ4 W3 tmps sl4 ob4 → ∃ W4,
      (Instr.endRound l jump).run P W3 = .ok (.bool jump.isNone) W4 ∧ (∀ b, CHo γ4 D l b → CHo γ D l b ∨ W.heap.size ≤ b) ∧ (∀ b, PRo C' γ4 D l b → (PRo C' γ D l b ∨ γi.im b ∨ W.heap.size ≤ b) ∧ b < W4.heap.size) ∧ (∀ b, CHo γ4 D l b → PRo C' γ4 D l b) ∧ Chg (CHo γ D l) W W4 ∧
      JS C' tmps D l (recO fn tmps ps as c D (if jump.isNone then .ready else .done) jump) γ4 sl4 ob4 (CHo γ4 D l) (PRo C' γ4 D l) W4 := by
    intro jump γ4 sl4 ob4 S4
    have own4 : ∀ b, ownB γ4 b → ownB γ b ∨ W.heap.size ≤ b := by
      rintro b ⟨p, i, h1, h2⟩
      rcases S4.own p i b h1 h2 with h | h
      · exact own1 b h
      · change W2.heap.size ≤ b at h; rw [hs2] at h; exact .inr (Nat.le_trans hle1 h)
    have im4 : ∀ b, γ4.im b → γ.im b ∨ γi.im b ∨ ownB γ b ∨ W.heap.size ≤ b := by
      intro b hb
      rcases S4.imn b hb with h | h | h
      · exact im1 b h
      · exact .inr (.inr (own1 b h))
      · change W2.heap.size ≤ b at h; rw [hs2] at h; exact .inr (.inr (.inr (Nat.le_trans hle1 h)))
    have imD4 : ¬ γ4.im D := fun h => by
      rcases im4 D h with h | h | h | h
      · exact imD h
      · exact (him D h).2.1 (.inr (.inl rfl))
      · exact ownD h
      · omega
    have iml4 : ¬ γ4.im l := fun h => by
      rcases im4 l h with h | h | h | h
      · exact iml h
      · exact (him l h).2.1 (.inr (.inr rfl))
      · exact ownl h
      · omega
    have ownl4 : ¬ ownB γ4 l := fun h => by
      rcases own4 l h with h | h
      · exact ownl h
      · omega
    have hle : W.heap.size ≤ W3.heap.size := by have := S3'.chg.size; change W2.heap.size ≤ _ at this; omega
    have hc4 : Chg (fun b => b = l) W3 (W3.putObj l (.loop (recO fn tmps ps as c D (if jump.isNone then .ready else .done) jump))) := Chg.put _ _ _
    refine ⟨_, run_endRound (P := P) jump hl3, ?_, ?_, ?_, ?_, ?_⟩
    · rintro b (⟨h1, h2⟩ | h | h)
      · rcases own4 b h1 with h | h
        · exact .inl (.inl ⟨h, fun hi => h2 (S4.imk b (S1.imk b ((aim b).2 (.inl hi))).1).1⟩)
        · exact .inr h
      · exact .inl (.inr (.inl h))
      · exact .inl (.inr (.inr h))
    · intro b hb
      rw [World.putObj_size]
      rcases hb with h | h | h | h | h
      · refine ⟨?_, let ⟨p, i, h1, h2⟩ := h; blk_lt S4 h1 h2⟩
        rcases own4 b h with h | h
        · exact .inl (.inl h)
        · exact .inr (.inr h)
      · exact ⟨.inl (.inr (.inl h)), by subst h; exact hD3W⟩
      · exact ⟨.inl (.inr (.inr (.inl h))), by subst h; exact hl3W⟩
      · refine ⟨?_, S4.lt b h⟩
        rcases im4 b h with h | h | h | h
        · exact .inl (.inr (.inr (.inr (.inl h))))
        · exact .inr (.inl h)
        · exact .inl (.inl h)
        · exact .inr (.inr h)
      · exact ⟨.inl (.inr (.inr (.inr (.inr h)))), by have := S.chg.size; omega⟩
    · rintro b (⟨h1, _⟩ | h | h)
      · exact .inl h1
      · exact .inr (.inl h)
      · exact .inr (.inr (.inl h))
    · refine ⟨hc4.os.trans (S3'.chg.os.trans (hc2.os.trans S1.chg.os)), hc4.tape.trans (S3'.chg.tape.trans (hc2.tape.trans S1.chg.tape)), hc4.output.trans (S3'.chg.output.trans (hc2.output.trans S1.chg.output)), Nat.le_trans hle hc4.size, fun k hk hn => ?_⟩
      have hkl : k ≠ l := fun e => hn (.inr (.inr e))
      refine (hc4.block k (by omega) hkl).trans ?_
      by_cases hi : γ.im k
      · obtain ⟨h1, h2⟩ := S1.imk k ((aim k).2 (.inl hi))
        exact (S3'.imk k h1).2.trans ((hc2.block k (by omega) hkl).trans h2)
      · have ho : ¬ ownB γ k := fun ho => hn (.inl ⟨ho, hi⟩)
        exact (keepB k (by omega) (fun h => (own1 k h).elim ho (fun h => by omega))).trans ((hc2.block k (by omega) hkl).trans (keepA k hk ho))
    · exact ⟨(S4.unext Xb).same hc4 Q2 (fun b _ e => by subst e; exact ⟨iml4, ownl4⟩), rfl, rfl, imD4, iml4, (World.putObj_heap_other hDl).trans hD3, World.putObj_heap_same hl3W⟩
  have S4 : St (C'.re γ1 W2 (fun k => k < 64)) γ3 W3 tmps sl ob3 := hback.rekp (fun _ _ => trivial)
  cases o with
  | norm =>
    simp only [rgK] at hK
    unfold normK at hK
    obtain ⟨y, hy4, hK⟩ := bnd_some hK
    obtain ⟨γ4, S5⟩ := headH_ok (fun _ h => h) S4 hy4
    obtain ⟨W4, g1, g2, g3, g4, g5, g6⟩ := fin none γ4 y.1 y.2 S5
    exact ⟨_, W4, g1, _, _, g2, g3, g4, g5, .inl ⟨rfl, γ4, y.1, y.2, rest', by rw [List.append_assoc]; exact hpre, hK, g6⟩⟩
  | exit id =>
    obtain ⟨W4, g1, g2, g3, g4, g5, g6⟩ := fin (some (.exit id)) γ3 sl ob3 S4
    exact ⟨_, W4, g1, _, _, g2, g3, g4, g5, .inr ⟨rfl, γ3, sl, ob3, .exit id, _, rfl, hK, g6⟩⟩
  | goto t =>
    obtain ⟨W4, g1, g2, g3, g4, g5, g6⟩ := fin (some (.goto t)) γ3 sl ob3 S4
    exact ⟨_, W4, g1, _, _, g2, g3, g4, g5, .inr ⟨rfl, γ3, sl, ob3, .goto t, _, rfl, hK, g6⟩⟩
  | ret =>
    obtain ⟨W4, g1, g2, g3, g4, g5, g6⟩ := fin (some .ret) γ3 sl ob3 S4
    exact ⟨_, W4, g1, _, _, g2, g3, g4, g5, .inr ⟨rfl, γ3, sl, ob3, .ret, _, rfl, hK, g6⟩⟩
end
end Go.Proofs.YtcimkkcajkmfoaaDoor
