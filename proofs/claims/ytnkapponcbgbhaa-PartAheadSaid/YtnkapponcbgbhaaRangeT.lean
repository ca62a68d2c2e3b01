import Derived.Test.YtnkapponcbgbhaaDenS
set_option linter.all false
namespace Go.Proofs.Ytnkapponcbgbhaa
section
open Go
structure JS (C' : Ctx) (tmps : Array Value) (D l : Nat) (lo : Loop) (γ : Gh) (sl : SL) (ob : OB) (CH PR : Nat → Prop) (W : World) : Prop where
  st : St C' γ W tmps sl ob
  ch : CH = CHo γ D l
  pr : PR = PRo C' γ D l
  imD : ¬ γ.im D
  iml : ¬ γ.im l
  hD : W.heap[D]? = some (.deferred (some []))
  hl : W.heap[l]? = some (.loop lo)
theorem JS.stab {C' : Ctx} {tmps : Array Value} {D l : Nat} {lo : Loop} {γ : Gh} {sl : SL} {ob : OB} {CH PR : Nat → Prop} {W W' : World} (h : JS C' tmps D l lo γ sl ob CH PR W) (hc : Chg (fun b => ¬ PR b) W W') : JS C' tmps D l lo γ sl ob CH PR W' := by
  have hD := (Array.getElem?_eq_some_iff.1 h.hD).1
  have hl := (Array.getElem?_eq_some_iff.1 h.hl).1
  have pr := h.pr
  refine ⟨h.st.same hc (fun b hb hn => ?_) (fun b hb hn => ?_), h.ch, h.pr, h.imD, h.iml, ?_, ?_⟩
  · exact Classical.byContradiction fun hA => hn (by rw [pr]; exact .inr (.inr (.inr (.inr ⟨hb, hA⟩))))
  · exact ⟨fun hi => hn (by rw [pr]; exact .inr (.inr (.inr (.inl hi)))), fun ho => hn (by rw [pr]; exact .inl ho)⟩
  · exact (hc.block D hD (fun hn => hn (by rw [pr]; exact .inr (.inl rfl)))).trans h.hD
  · exact (hc.block l hl (fun hn => hn (by rw [pr]; exact .inr (.inr (.inl rfl))))).trans h.hl
def jumpOf : Out → Option Code
  | .norm => none
  | .exit id => some (.exit id)
  | .goto l => some (.goto l)
  | .ret => some .ret
def recO (fn : FuncId) (tmps : Array Value) (ps : Array Tmp) (as c : Code) (D : Nat) (st : LoopState) (pe : Option Code) : Loop :=
  { state := st, pending := pe, fn, tmps, params := ps, assign := as, body := c, defers := D }
section
variable {P : Program} {E : Env} {C : Ctx}
theorem round_ok {Φ : Sem'} {N n M : Nat} {as c : Code} (hA : DenOK P E C Φ N n M as) (hB : DenOK P E C Φ N n M c) (hyp : E.yp = false) (hna : noHead as = true) (hnh : noHead c = true) {C' : Ctx} (hf : C'.fid = C.fid) (hg : C'.glob = C.glob) (hkp : ∀ k, C'.kp k → k < 64) {tmps : Array Value} (hM : tmps.size = M) {ps : Array Tmp} (hps : ∀ t ∈ ps.toList, t < M) {D l : Nat} (hDl : D ≠ l) (hlo : C'.w0.heap.size ≤ l) {fn : FuncId} {hd : Hd} {K : Kont} {r : R} {xs : List (List PV)} {nn : Nat}
    (pre : List (List PV)) (x : List PV) (rest' : List (List PV)) (CH PR : Nat → Prop) (W : World) (γi : Gh) (vals : Array Value) (hpre : pre ++ x :: rest' = xs)
    (hJ : ∃ γ sl ob rest, pre ++ rest = xs ∧ rounds' (fun g sl0 => den P E Φ N n as none (thenA (den P E Φ N n c none (rgK g K sl0)))) ps.toList hd (K .norm) rest sl ob = some r ∧ JS C' tmps D l (recO fn tmps ps as c D .ready none) γ sl ob CH PR W)
    (hR : RL C.fid γi W.heap vals 0 x) (hs : vals.size = x.length) (hok : x.all okT = true) (him : ∀ b, γi.im b → b < W.heap.size ∧ ¬ CH b ∧ (C'.g0.im b ∨ C'.A b ∨ C'.w0.heap.size ≤ b)) :
    YieldAt Fence.wide nn P l vals W fun e w' => ∃ CH' PR' : Nat → Prop, (∀ b, CH' b → CH b ∨ W.heap.size ≤ b) ∧ (∀ b, PR' b → (PR b ∨ γi.im b ∨ W.heap.size ≤ b) ∧ b < w'.heap.size) ∧ (∀ b, CH' b → PR' b) ∧ Chg CH W w' ∧
      ((e = .returned (.bool true) ∧ ∃ γ sl ob rest, (pre ++ [x]) ++ rest = xs ∧ rounds' (fun g sl0 => den P E Φ N n as none (thenA (den P E Φ N n c none (rgK g K sl0)))) ps.toList hd (K .norm) rest sl ob = some r ∧ JS C' tmps D l (recO fn tmps ps as c D .ready none) γ sl ob CH' PR' w') ∨
       (e = .returned (.bool false) ∧ ∃ γ sl ob o cj, jumpOf o = some cj ∧ K o sl ob = some r ∧ JS C' tmps D l (recO fn tmps ps as c D .done (some cj)) γ sl ob CH' PR' w')) := by
  obtain ⟨γ, sl, ob, rest, hpre', hrd, S, hCH, hPR, imD, iml, hD, hl⟩ := hJ
  have hre : rest = x :: rest' := List.append_cancel_left (hpre'.trans hpre.symm)
  subst hre
  simp only [rounds'] at hrd
  split at hrd
  case isFalse => cases hrd
  rename_i hlen
  subst hCH; subst hPR
  have hlW := (Array.getElem?_eq_some_iff.1 hl).1
  have hDW := (Array.getElem?_eq_some_iff.1 hD).1
  have ownl : ¬ ownB γ l := fun h => by rcases own_cells S h with ⟨cs, t, fr, e⟩ | ⟨es, c, e⟩ <;> rw [hl] at e <;> cases e
  have ownD : ¬ ownB γ D := fun h => by rcases own_cells S h with ⟨cs, t, fr, e⟩ | ⟨es, c, e⟩ <;> rw [hD] at e <;> cases e
  have Sa := S.moreIm (I := γi.im) (fun b hb => (him b hb).1) (fun o y i b hy hfr hi hb hI => (him b hI).2.1 (.inl ⟨⟨o, i, hi, hb⟩, S.unf o y i b hy hfr hi hb⟩)) (fun b hb => (him b hb).2.2)
  obtain ⟨γa, hγa⟩ : ∃ γa : Gh, { γ with im := fun b => γ.im b ∨ γi.im b } = γa := ⟨_, rfl⟩
  rw [hγa] at Sa
  have amu : γa.mu = γ.mu := by rw [← hγa]
  have aim : ∀ b, γa.im b ↔ γ.im b ∨ γi.im b := fun b => by rw [← hγa]
  have aown : ∀ b, ownB γa b ↔ ownB γ b := fun b => by unfold ownB; rw [amu]
  have hval : ∀ (i : Nat) v y, x[i]? = some v → vals.toList[i]? = some y → RV C'.fid γa W.heap y v := by
    intro i v y hv hy
    obtain ⟨y', hy', H⟩ := RL_get i v hR hv
    rw [Nat.zero_add] at hy'
    rw [Array.getElem?_toList] at hy
    rw [hy'] at hy
    injection hy with hy
    subst hy
    rw [hf]
    exact okT_mono (fun b hb => ⟨(aim b).2 (.inr hb), rfl⟩) (List.all_eq_true.1 hok v (List.mem_of_getElem? hv)) H
  obtain ⟨Sz, hsz⟩ := zipS_ok ps.toList vals.toList x tmps sl Sa hlen.symm (by simp [hs]) (fun t ht => by rw [hM]; exact hps t ht) hval
  have hfold : (ps.zip vals).foldl (fun t (p : Tmp × Value) => t.setIfInBounds p.1 p.2) tmps = (ps.toList.zip vals.toList).foldl (fun t (p : Tmp × Value) => t.setIfInBounds p.1 p.2) tmps := by
    rw [← Array.foldl_toList, Array.toList_zip]
  have hy := run_yield (P := P) (args := vals) hl (by simp only [recO]; rw [hs, hlen]; simp)
  have iml' : ¬ γa.im l := fun h => ((aim l).1 h).elim iml (fun h => (him l h).2.1 (.inr (.inr rfl)))
  have imD' : ¬ γa.im D := fun h => ((aim D).1 h).elim imD (fun h => (him D h).2.1 (.inr (.inl rfl)))
  have Sz1 := Sz.rebase (fun _ => True) (Chg.refl (fun _ => False) W) (fun _ _ h => h.elim)
  have X1 : Ext C' (C'.re γa W (fun _ => True)) := (Ext.refl' Sz).rebase Sz (fun _ _ => trivial) (Chg.refl (fun _ => False) W) (fun _ _ h => h.elim) (fun _ _ h => h.elim)
  have runA := (hA nn (Fence.wide.inRound l) (.inr ⟨l, rfl⟩) (fun C'' ds r' _ => r' = r ∧ ds = [] ∧ Ext (C'.re γa W (fun _ => True)) C'') (fun _ _ _ _ _ _ h => h) (fun h => by rw [hyp] at h; cases h) (fun h => by rw [hna] at h; cases h)).1 _ _ ob { tmps := (ps.zip vals).foldl (fun t (p : Tmp × Value) => t.setIfInBounds p.1 p.2) tmps, defers := [] } γa W r hrd (by simp only [hfold]; rw [hsz]; exact hM) ⟨C'.re γa W (fun _ => True), hf, hg, ⟨rfl, rfl, Ext.refl' Sz1⟩, by rw [hfold]; exact Sz1⟩
  refine ⟨fn, _, as, c, hy, roundIn_of_wpIn trivial (wpIn_mono runA ?_)⟩
  rintro e a1 W1 ⟨hs1, o1, sl1, ob1, γ1, r1, he1, hK1, C1, hf1, hg1, ⟨hr1, hds1, XA⟩, SA⟩
  subst hr1; subst he1
  have S1 := SA.unext XA
  obtain rfl : o1 = .norm := by cases o1 <;> first | rfl | (simp [thenA] at hK1)
  simp only [thenA] at hK1
  have own1 : ∀ b, ownB γ1 b → ownB γ b ∨ W.heap.size ≤ b := by
    rintro b ⟨p, i, h1, h2⟩
    rcases S1.own p i b h1 h2 with h | h
    · exact .inl ((aown b).1 h)
    · exact .inr h
  have im1 : ∀ b, γ1.im b → γ.im b ∨ γi.im b ∨ ownB γ b ∨ W.heap.size ≤ b := by
    intro b hb
    rcases S1.imn b hb with h | h | h
    · rcases (aim b).1 h with h | h
      · exact .inl h
      · exact .inr (.inl h)
    · exact .inr (.inr (.inl ((aown b).1 h)))
    · exact .inr (.inr (.inr h))
  have ownl1 : ¬ ownB γ1 l := fun h => (own1 l h).elim ownl (fun h => by omega)
  have ownD1 : ¬ ownB γ1 D := fun h => (own1 D h).elim ownD (fun h => by omega)
  have iml1 : ¬ γ1.im l := fun h => by
    rcases im1 l h with h | h | h | h
    · exact iml h
    · exact (him l h).2.1 (.inr (.inr rfl))
    · exact ownl h
    · omega
  have imD1 : ¬ γ1.im D := fun h => by
    rcases im1 D h with h | h | h | h
    · exact imD h
    · exact (him D h).2.1 (.inr (.inl rfl))
    · exact ownD h
    · omega
  have keepA : ∀ b, b < W.heap.size → ¬ ownB γ b → W1.heap[b]? = W.heap[b]? := fun b hb ho => S1.chg.block b hb (fun h => h.elim (fun h => ho ((aown b).1 h)) (fun h => by change W.heap.size ≤ b at h; omega))
  have hl1 := (keepA l hlW ownl).trans hl
  have hD1 := (keepA D hDW ownD).trans hD
  have hl1W := (Array.getElem?_eq_some_iff.1 hl1).1
  have hD1W := (Array.getElem?_eq_some_iff.1 hD1).1
  have hle1 : W.heap.size ≤ W1.heap.size := S1.chg.size
  refine ⟨_, run_beginRound hl1 rfl, ?_⟩
  obtain ⟨W2, hW2⟩ : ∃ W2, W1.putObj l (.loop { recO fn tmps ps as c D .ready none with state := .busy }) = W2 := ⟨_, rfl⟩
  rw [hW2]
  have hc2 : Chg (fun b => b = l) W1 W2 := by rw [← hW2]; exact Chg.put _ _ _
  have hl2 : W2.heap[l]? = some (.loop { recO fn tmps ps as c D .ready none with state := .busy }) := by rw [← hW2]; exact World.putObj_heap_same hl1W
  have hD2 : W2.heap[D]? = some (.deferred (some [])) := by rw [← hW2]; exact (World.putObj_heap_other hDl).trans hD1
  have hs2 : W2.heap.size = W1.heap.size := by rw [← hW2]; simp
  have q2 : ∀ b, b < W1.heap.size → b = l → ¬ γ1.im b ∧ ¬ ownB γ1 b := fun b _ e => by subst e; exact ⟨iml1, ownl1⟩
  have Q2 : ∀ b, b < C'.w0.heap.size → b = l → C'.A b := fun b h e => by omega
  have Sb := S1.rebase (fun _ => True) hc2 q2
  have Xb : Ext C' (C'.re γ1 W2 (fun k => k < 64)) := X1.rebase S1 hkp hc2 Q2 q2
  have run := (hB nn (Fence.wide.inRound l) (.inr ⟨l, rfl⟩) (fun C'' ds r' _ => r' = r1 ∧ ds = [] ∧ Ext (C'.re γ1 W2 (fun _ => True)) C'') (fun _ _ _ _ _ _ h => h) (fun h => by rw [hyp] at h; cases h) (fun h => by rw [hnh] at h; cases h)).1 _ sl1 ob1 a1 γ1 W2 r1 hK1 hs1 ⟨C'.re γ1 W2 (fun _ => True), hf, hg, ⟨rfl, hds1, Ext.refl' Sb⟩, Sb⟩
  refine wpIn_mono run ?_
  rintro e a3 W3 ⟨_, o, sl3, ob3, γ3, r3, he, hK, C3, hf3, hg3, ⟨hr3, _, X3⟩, S3⟩
  subst hr3; subst he
  have S3' := S3.unext X3
  have hback : St (C'.re γ1 W2 (fun _ => True)) γ3 W3 tmps sl ob3 := S3'.slots fun t => by
    refine RAt_mono ⟨fun p _ i hi => ?_, fun g b hb => ?_⟩ (S.slot t)
    · obtain ⟨i1, h1, h2⟩ := S1.kept p i trivial (by simp only [Ctx.re]; rw [amu]; exact hi)
      obtain ⟨i2, h3, h4⟩ := S3'.kept p i1 trivial h1
      refine ⟨i2, h3, ?_⟩
      rcases h2 with rfl | h2
      · exact h4
      · rcases h4 with rfl | h4
        · exact .inr h2
        · exact .inr (by omega)
    · obtain ⟨h1, h2⟩ := S1.imk b ((aim b).2 (.inl hb.1))
      obtain ⟨h3, h4⟩ := S3'.imk b h1
      refine ⟨⟨h3, fun e => ?_⟩, h4.trans ((hc2.block b (S1.lt b h1) (fun e => iml1 (e ▸ h1))).trans h2)⟩
      have := hb.2 e
      rw [S.gn] at this
      rw [S3'.gn]; exact this
  have keepB : ∀ b, b < W1.heap.size → ¬ ownB γ1 b → W3.heap[b]? = W2.heap[b]? := fun b hb ho => S3'.chg.block b (by show b < W2.heap.size; rw [hs2]; exact hb) (fun h => h.elim (fun h => ho h) (fun h => by change W2.heap.size ≤ b at h; omega))
  have hl3 := (keepB l hl1W ownl1).trans hl2
  have hD3 := (keepB D hD1W ownD1).trans hD2
  have hl3W := (Array.getElem?_eq_some_iff.1 hl3).1
  have hD3W := (Array.getElem?_eq_some_iff.1 hD3).1
  have fin : ∀ (jump : Option Code) (γ4 : Gh) (sl4 : SL) (ob4 : OB), St (C'.re γ1 W2 (fun k => k < 64)) γ4 W3 tmps sl4 ob4 → ∃ W4,
      (Instr.endRound l jump).run P W3 = .ok (.bool jump.isNone) W4 ∧ (∀ b, CHo γ4 D l b → CHo γ D l b ∨ W.heap.size ≤ b) ∧ (∀ b, PRo C' γ4 D l b → (PRo C' γ D l b ∨ γi.im b ∨ W.heap.size ≤ b) ∧ b < W4.heap.size) ∧ (∀ b, CHo γ4 D l b → PRo C' γ4 D l b) ∧ Chg (CHo γ D l) W W4 ∧
      JS C' tmps D l (recO fn tmps ps as c D (if jump.isNone then .ready else .done) jump) γ4 sl4 ob4 (CHo γ4 D l) (PRo C' γ4 D l) W4 := by
    intro jump γ4 sl4 ob4 S4
    have own4 : ∀ b, ownB γ4 b → ownB γ b ∨ W.heap.size ≤ b := by
      rintro b ⟨p, i, h1, h2⟩
      rcases S4.own p i b h1 h2 with h | h
      · exact own1 b h
      · change W2.heap.size ≤ b at h; rw [hs2] at h; exact .inr (Nat.le_trans hle1 h)
    have im4 : ∀ b, γ4.im b → γ.im b ∨ γi.im b ∨ ownB γ b ∨ W.heap.size ≤ b := by
      intro b hb
      rcases S4.imn b hb with h | h | h
      · exact im1 b h
      · exact .inr (.inr (own1 b h))
      · change W2.heap.size ≤ b at h; rw [hs2] at h; exact .inr (.inr (.inr (Nat.le_trans hle1 h)))
    have imD4 : ¬ γ4.im D := fun h => by
      rcases im4 D h with h | h | h | h
      · exact imD h
      · exact (him D h).2.1 (.inr (.inl rfl))
      · exact ownD h
      · omega
    have iml4 : ¬ γ4.im l := fun h => by
      rcases im4 l h with h | h | h | h
      · exact iml h
      · exact (him l h).2.1 (.inr (.inr rfl))
      · exact ownl h
      · omega
    have ownl4 : ¬ ownB γ4 l := fun h => by
      rcases own4 l h with h | h
      · exact ownl h
      · omega
    have hle : W.heap.size ≤ W3.heap.size := by have := S3'.chg.size; change W2.heap.size ≤ _ at this; omega
    have hc4 : Chg (fun b => b = l) W3 (W3.putObj l (.loop (recO fn tmps ps as c D (if jump.isNone then .ready else .done) jump))) := Chg.put _ _ _
    refine ⟨_, run_endRound (P := P) jump hl3, ?_, ?_, ?_, ?_, ?_⟩
    · rintro b (⟨h1, h2⟩ | h | h)
      · rcases own4 b h1 with h | h
        · exact .inl (.inl ⟨h, fun hi => h2 (S4.imk b (S1.imk b ((aim b).2 (.inl hi))).1).1⟩)
        · exact .inr h
      · exact .inl (.inr (.inl h))
      · exact .inl (.inr (.inr h))
    · intro b hb
      rw [World.putObj_size]
      rcases hb with h | h | h | h | h
      · refine ⟨?_, let ⟨p, i, h1, h2⟩ := h; blk_lt S4 h1 h2⟩
        rcases own4 b h with h | h
        · exact .inl (.inl h)
        · exact .inr (.inr h)
      · exact ⟨.inl (.inr (.inl h)), by subst h; exact hD3W⟩
      · exact ⟨.inl (.inr (.inr (.inl h))), by subst h; exact hl3W⟩
      · refine ⟨?_, S4.lt b h⟩
        rcases im4 b h with h | h | h | h
        · exact .inl (.inr (.inr (.inr (.inl h))))
        · exact .inr (.inl h)
        · exact .inl (.inl h)
        · exact .inr (.inr h)
      · exact ⟨.inl (.inr (.inr (.inr (.inr h)))), by have := S.chg.size; omega⟩
    · rintro b (⟨h1, _⟩ | h | h)
      · exact .inl h1
      · exact .inr (.inl h)
      · exact .inr (.inr (.inl h))
    · refine ⟨hc4.os.trans (S3'.chg.os.trans (hc2.os.trans S1.chg.os)), hc4.tape.trans (S3'.chg.tape.trans (hc2.tape.trans S1.chg.tape)), hc4.output.trans (S3'.chg.output.trans (hc2.output.trans S1.chg.output)), Nat.le_trans hle hc4.size, fun k hk hn => ?_⟩
      have hkl : k ≠ l := fun e => hn (.inr (.inr e))
      refine (hc4.block k (by omega) hkl).trans ?_
      by_cases hi : γ.im k
      · obtain ⟨h1, h2⟩ := S1.imk k ((aim k).2 (.inl hi))
        exact (S3'.imk k h1).2.trans ((hc2.block k (by omega) hkl).trans h2)
      · have ho : ¬ ownB γ k := fun ho => hn (.inl ⟨ho, hi⟩)
        exact (keepB k (by omega) (fun h => (own1 k h).elim ho (fun h => by omega))).trans ((hc2.block k (by omega) hkl).trans (keepA k hk ho))
    · exact ⟨(S4.unext Xb).same hc4 Q2 (fun b _ e => by subst e; exact ⟨iml4, ownl4⟩), rfl, rfl, imD4, iml4, (World.putObj_heap_other hDl).trans hD3, World.putObj_heap_same hl3W⟩
  have S4 : St (C'.re γ1 W2 (fun k => k < 64)) γ3 W3 tmps sl ob3 := hback.rekp (fun _ _ => trivial)
  cases o with
  | norm =>
    simp only [rgK] at hK
    unfold normK at hK
    obtain ⟨y, hy4, hK⟩ := bnd_some hK
    obtain ⟨γ4, S5⟩ := headH_ok (fun _ h => h) S4 hy4
    obtain ⟨W4, g1, g2, g3, g4, g5, g6⟩ := fin none γ4 y.1 y.2 S5
    exact ⟨_, W4, g1, _, _, g2, g3, g4, g5, .inl ⟨rfl, γ4, y.1, y.2, rest', by rw [List.append_assoc]; exact hpre, hK, g6⟩⟩
  | exit id =>
    obtain ⟨W4, g1, g2, g3, g4, g5, g6⟩ := fin (some (.exit id)) γ3 sl ob3 S4
    exact ⟨_, W4, g1, _, _, g2, g3, g4, g5, .inr ⟨rfl, γ3, sl, ob3, .exit id, _, rfl, hK, g6⟩⟩
  | goto t =>
    obtain ⟨W4, g1, g2, g3, g4, g5, g6⟩ := fin (some (.goto t)) γ3 sl ob3 S4
    exact ⟨_, W4, g1, _, _, g2, g3, g4, g5, .inr ⟨rfl, γ3, sl, ob3, .goto t, _, rfl, hK, g6⟩⟩
  | ret =>
    obtain ⟨W4, g1, g2, g3, g4, g5, g6⟩ := fin (some .ret) γ3 sl ob3 S4
    exact ⟨_, W4, g1, _, _, g2, g3, g4, g5, .inr ⟨rfl, γ3, sl, ob3, .ret, _, rfl, hK, g6⟩⟩
end
end
section
open Go
theorem rgF_some {Φ : Sem'} {ob : OB} {v : PV} {q : List Nat × List (List PV)} (h : rgF Φ ob v = some q) :
    ∃ k cs os g, v = .fn k [] cs ∧ getO ob rp = none ∧ getO ob rq = none ∧ reach ((rp, lpO) :: (rq, lpO) :: ob) 20 (rp :: rq :: refsL cs) [] = some q.1 ∧ getOs ((rp, lpO) :: (rq, lpO) :: ob) q.1 = some os ∧
      q.1.length ≤ 60 ∧ os.all (fun x => !x.fro) = true ∧ q.1.all (fun o => decide (64 ≤ o)) = true ∧ q.1.take 2 = [rp, rq] ∧ (refsOB (delO q.1 ob)).any (q.1.contains ·) = false ∧
      Φ k (renL (idx q.1) (.y rp 0 4 :: cs)) (os.map (renO (idx q.1))) = some (.tup [.un, .l g q.2], []) := by
  unfold rgF at h
  split at h
  · rename_i k cs
    unfold rgNo at h
    split at h
    · rename_i h1 h2
      unfold rgRun at h
      split at h
      · rename_i ids hre
        unfold rgOs at h
        split at h
        · rename_i os hos
          split at h
          · rename_i hc
            obtain ⟨c1, c2, c3, c4, c5⟩ := hc
            unfold rgIt at h
            split at h
            · rename_i g xs hphi
              injection h with h
              subst h
              exact ⟨k, cs, os, g, rfl, h1, h2, hre, hos, c1, c2, c3, c4, c5, hphi⟩
            · cases h
          · cases h
        · cases h
      · cases h
    · cases h
  · cases h
theorem RL_shift {fid : Nat → Nat} {γ : Gh} {h : Array Obj} {cs cs' : Array Value} {d : Nat} (H : ∀ (k : Nat) x, cs[k]? = some x → cs'[k + d]? = some x) : ∀ {l : List PV} {off : Nat}, RL fid γ h cs off l → RL fid γ h cs' (off + d) l
  | [], _, _ => by simp only [RL]
  | v :: r, off, hR => by
    simp only [RL] at hR ⊢
    obtain ⟨⟨x, h1, h2⟩, h3⟩ := hR
    refine ⟨⟨x, H _ _ h1, h2⟩, ?_⟩
    have := RL_shift H h3
    rwa [show off + 1 + d = off + d + 1 by omega] at this
section
variable {P : Program} {E : Env} {C : Ctx}
theorem range_ok (hE : E.fid = C.fid) (hG : E.glob = C.glob) {Φ : Sem'} (hΦI : SoundI P C.fid C.glob Φ) {N n M : Nat} (hM : n ≤ M) (f : Operand) (ps : Array Tmp) (as c : Code) (hA : DenOK P E C Φ N n M as) (hB : DenOK P E C Φ N n M c) : DenOK P E C Φ N n M (.rangeFunc f ps as c) := by
  intro nn F hF T hT hY hH
  obtain ⟨rfl, hHd, hRt⟩ := hH rfl
  refine ⟨?_, fun l rest hf => by simp [findLabel] at hf⟩
  intro K sl ob a γ0 w r H hs I
  simp only [den] at H
  split at H
  case isFalse => cases H
  rename_i hc
  obtain ⟨hyp, hna, hnh, hall⟩ := hc
  split at H
  · cases H
  rename_i hd hann
  obtain ⟨x, hxe⟩ : ∃ x : SL × OB, x = (keepS sl hd.ts, ob) := ⟨_, rfl⟩
  have hv := inv_eqs hE hG I f
  obtain ⟨C', hf, hg, hTT, S0⟩ := I
  have S : St C' γ0 w a.tmps x.1 x.2 := by
    rw [hxe]
    exact S0.slots fun t => by
      rcases keepS_get sl hd.ts t with e | e
      · rw [e]; exact S0.slot t
      · rw [e]; exact RV_un
  obtain ⟨γ, hγ0⟩ : ∃ γ, γ = γ0 := ⟨_, rfl⟩
  rw [← hγ0] at S hv
  have hkp := hHd _ _ _ _ hTT
  have hRt := hRt hyp
  unfold rgO at H
  split at H
  case h_2 => cases H
  rename_i q hq
  obtain ⟨k, cs, os, g, he, hrp, hrq, hreach, hos, hlen60, hfro, h64, htake, hdel, hphi⟩ := rgF_some hq
  obtain ⟨ids, xs⟩ := q
  rw [show ob = x.2 by rw [hxe]] at hrp hrq hreach hos hdel H
  rw [show keepS sl hd.ts = x.1 by rw [hxe]] at H
  simp only at hreach hos hlen60 hfro h64 htake hdel hphi H
  rw [he, RV_fn] at hv
  obtain ⟨f0, a1, a2, hev, hfk, ⟨ha1, _⟩, ha2, hRL⟩ := hv
  have ha1' : a1 = #[] := by simpa using ha1
  subst ha1'
  have hps : ∀ t ∈ ps.toList, t < M := by
    intro t ht
    rw [← Array.all_toList] at hall
    have := List.all_eq_true.1 hall t ht
    have h2 : t < n := by simpa using this
    exact Nat.lt_of_lt_of_le h2 hM
  obtain ⟨D, hD0⟩ : ∃ D, w.heap.size = D := ⟨_, rfl⟩
  obtain ⟨l, hl0⟩ : ∃ l, D + 1 = l := ⟨_, rfl⟩
  have hw0 := S.chg.size
  refine wpIn_rangeFunc ?_
  intro fn hfn
  obtain ⟨W1, hW1⟩ : ∃ W1, (w.alloc (.deferred (some []))).alloc (.loop (recO fn a.tmps ps as c D .ready none)) = W1 := ⟨_, rfl⟩
  have hL1 : W1.heap[l]? = some (.loop (recO fn a.tmps ps as c D .ready none)) := by
    rw [← hW1, ← hl0, ← hD0]; have := World.alloc_heap_new (w.alloc (.deferred (some []))) (.loop (recO fn a.tmps ps as c w.heap.size .ready none)); rwa [World.size_alloc] at this
  have hc1 : Chg (fun _ => False) w W1 := by rw [← hW1]; exact (Chg.allocs w _).trans ((Chg.allocs _ _).weaken (fun _ _ h => h))
  have hK1 : W1.heap[D]? = some (.deferred (some [])) := by
    rw [← hW1, ← hD0]
    have h2 : (w.alloc (.deferred (some []))).heap[w.heap.size]? = some (.deferred (some [])) := World.alloc_heap_new w _
    exact ((Chg.allocs (w.alloc (.deferred (some []))) (.loop (recO fn a.tmps ps as c w.heap.size .ready none))).block _ (Array.getElem?_eq_some_iff.1 h2).1 (fun h => h)).trans h2
  have hl1W := (Array.getElem?_eq_some_iff.1 hL1).1
  have S1 : St C' γ W1 a.tmps x.1 x.2 := S.same hc1 (fun _ _ h => h.elim) (fun _ _ h => h.elim)
  have mrp : γ.mu rp = none := mu_none S hrp
  have mrq : γ.mu rq = none := mu_none S hrq
  let γ2 : Gh := { γ with mu := fun o => if o = rp then some ⟨0, none, l, 0⟩ else if o = rq then some ⟨0, none, 0, 0⟩ else γ.mu o }
  have S2 : St C' γ2 W1 a.tmps x.1 ((rp, lpO) :: (rq, lpO) :: x.2) := (St.change (γ' := γ2) (w' := W1) (u := [(rp, lpO), (rq, lpO)]) S1
    (fun o ho => by
      simp only [getO] at ho
      split at ho
      · cases ho
      · rename_i h1
        split at ho
        · cases ho
        · rename_i h2
          simp only [γ2]; rw [if_neg (fun e => h1 e.symm), if_neg (fun e => h2 e.symm)])
    (fun o i hi => ⟨i, by
      simp only [γ2]
      split
      · rename_i e; subst e; rw [mrp] at hi; cases hi
      · split
        · rename_i e; subst e; rw [mrq] at hi; cases hi
        · exact hi, .inl rfl⟩)
    (fun b hb => ⟨hb, rfl⟩) rfl (fun o i' b _ _ _ => ⟨rfl, id⟩)
    (fun o y hy => by
      simp only [getO] at hy
      split at hy
      · rename_i e; injection hy with hy; subst hy; subst e
        exact ⟨⟨0, none, l, 0⟩, by simp [γ2], ⟨rfl, (fun c h => by simp [lpO] at h), by simp [lpO], rfl⟩, fun b hb => by cases hb⟩
      · split at hy
        · rename_i e; injection hy with hy; subst hy; subst e
          exact ⟨⟨0, none, 0, 0⟩, by simp [γ2, rp, rq], ⟨rfl, (fun c h => by simp [lpO] at h), by simp [lpO], rfl⟩, fun b hb => by cases hb⟩
        · cases hy)
    S1.lt (fun b hb => .inl hb) (Chg.refl _ _)).2.2
  have blk2 : ∀ o i b, γ2.mu o = some i → i.blk = some b → γ.mu o = some i := by
    intro o i b h1 h2
    simp only [γ2] at h1
    split at h1
    · injection h1 with h1; subst h1; cases h2
    · split at h1
      · injection h1 with h1; subst h1; cases h2
      · exact h1
  have args2 : RL C'.fid (γ2.lend W1 [] ids) W1.heap (#[.func (.yield l) #[] #[]] ++ a2) 0 (.y rp 0 4 :: cs) := by
    simp only [RL]
    refine ⟨⟨.func (.yield l) #[] #[], by rw [Array.getElem?_append_left (Nat.zero_lt_one)]; rfl, ?_⟩, ?_⟩
    · simp only [RAt]
      exact ⟨⟨0, none, l, 0⟩, by simp [Gh.lend, γ2], Nat.le_refl _, l, by simp, fun _ => rfl⟩
    · refine RL_shift (cs := a2) (d := 1) (fun k y hk => ?_) (off := 0) (RL_mono (γ := γ) (h := w.heap) ⟨fun o _ i hi => ⟨i, ?_, .inl rfl⟩, fun g b hb => ⟨(lend_lent γ2 W1 [] ids).q g b hb, hc1.block b (S.lt b hb.1) (fun h => h)⟩⟩ (by rw [hf]; exact hRL))
      · rw [Array.getElem?_append_right (by simp)]; simpa using hk
      · simp only [Gh.lend, γ2]
        split
        · rename_i e; subst e; rw [mrp] at hi; cases hi
        · split
          · rename_i e; subst e; rw [mrq] at hi; cases hi
          · exact hi
  have Se := enter_ok (act := a) S2 (bor := []) (ids := ids) args2 (by simp [ha2, Nat.add_comm]) (todo := rp :: rq :: refsL cs) (fun o ho => by
    simp only [refsL, refs, List.mem_append, List.mem_singleton] at ho
    rcases ho with rfl | ho
    · simp
    · simp [ho]) hreach (by simp) hos
  obtain ⟨ids', rfl⟩ : ∃ r, ids = rp :: rq :: r := by
    match ids, htake with
    | [], h => simp at h
    | [_], h => simp at h
    | a :: b :: r, h => simp only [List.take_succ_cons, List.take_zero, List.cons.injEq, and_true] at h; obtain ⟨rfl, rfl⟩ := h; exact ⟨r, rfl⟩
  obtain ⟨ids, hids⟩ : ∃ ids, rp :: rq :: ids' = ids := ⟨_, rfl⟩
  have hmu0 : (C'.enter γ2 W1 [] ids).g0.mu 0 = some ⟨0, none, l, 0⟩ := by rw [← hids]; simp [Ctx.enter, Gh.ren, Gh.lend, nth, γ2]
  have hmu1 : (C'.enter γ2 W1 [] ids).g0.mu 1 = some ⟨0, none, 0, 0⟩ := by rw [← hids]; simp [Ctx.enter, Gh.ren, Gh.lend, nth, γ2, rp, rq]
  rw [hids] at Se hreach hos hlen60 h64 hdel hphi H
  have S3 := S1.del hkp (fun o ho => by have := List.all_eq_true.1 h64 o ho; simpa using this) hdel
  let γ3 : Gh := { γ with mu := fun o => if o ∈ ids then none else γ.mu o }
  unfold normK at H
  obtain ⟨y, hy, H⟩ := bnd_some H
  have S3b := S3.rebase (fun k => k < 64) (Chg.refl (fun _ => False) W1) (fun _ _ h => h.elim)
  have X3 : Ext C' (C'.re γ3 W1 (fun k => k < 64)) := (Ext.refl' S3).rebase S3 hkp (Chg.refl (fun _ => False) W1) (fun _ _ h => h.elim) (fun _ _ h => h.elim)
  obtain ⟨γ4, S4⟩ := headH_ok (fun _ h => h) S3b hy
  have own4 : ∀ b, ownB γ4 b → ownB γ3 b := by
    rintro b ⟨o, i, h1, h2⟩
    have hlt := blk_lt S4 h1 h2
    rcases S4.own o i b h1 h2 with h | h
    · exact h
    · change W1.heap.size ≤ b at h; omega
  have im4 : ∀ b, γ4.im b → γ.im b ∨ ownB γ3 b := by
    intro b h
    have hlt := S4.lt b h
    rcases S4.imn b h with h | h | h
    · exact .inl h
    · exact .inr h
    · change W1.heap.size ≤ b at h; omega
  have imk4 : ∀ b, γ.im b → γ4.im b := fun b h => (S4.imk b h).1
  have own3 : ∀ b, ownB γ3 b → ∃ o i, o ∉ ids ∧ γ.mu o = some i ∧ i.blk = some b := by
    rintro b ⟨o, i, h1, h2⟩
    simp only [γ3] at h1
    split at h1
    · cases h1
    · exact ⟨o, i, by assumption, h1, h2⟩
  have warm2 : ∀ o i, o ∈ ids → γ.mu o = some i → ∃ y, getO x.2 o = some y ∧ y.fro = false := by
    intro o i ho hi
    obtain ⟨y, hy⟩ := S.dom o i hi
    obtain ⟨j, hj, hjo⟩ := List.mem_iff_getElem.1 ho
    obtain ⟨z, hz, hz2⟩ := (getOs_ok _ ids os hos).2 j o (by rw [List.getElem?_eq_getElem hj, hjo])
    have h1 : rp ≠ o := fun e => by subst e; rw [mrp] at hi; cases hi
    have h2 : rq ≠ o := fun e => by subst e; rw [mrq] at hi; cases hi
    simp only [getO] at hz2
    rw [if_neg h1, if_neg h2, hy] at hz2
    injection hz2 with hz2
    subst hz2
    have := List.all_eq_true.1 hfro y (List.mem_of_getElem? hz)
    exact ⟨y, hy, by simpa using this⟩
  have blkA : ∀ b, blkOf γ2 ids b → ∃ o i, o ∈ ids ∧ γ.mu o = some i ∧ i.blk = some b := by
    rintro b ⟨o, i, h1, h2, h3⟩
    exact ⟨o, i, h1, blk2 o i b h2 h3, h3⟩
  let Z : Rnd P C.fid xs l 0 :=
    { J := fun pre CH PR W => ∃ γ sl ob rest, pre ++ rest = xs ∧ rounds' (fun g sl0 => den P E Φ N n as none (thenA (den P E Φ N n c none (rgK g K sl0)))) ps.toList hd (K .norm) rest sl ob = some r ∧ JS C' a.tmps D l (recO fn a.tmps ps as c D .ready none) γ sl ob CH PR W
      Jx := fun CH PR W => ∃ γ sl ob o cj, jumpOf o = some cj ∧ K o sl ob = some r ∧ JS C' a.tmps D l (recO fn a.tmps ps as c D .done (some cj)) γ sl ob CH PR W
      IM := fun b => C'.g0.im b ∨ C'.A b ∨ C'.w0.heap.size ≤ b
      stab := fun pre CH PR W W' ⟨γ, sl, ob, rest, h1, h2, h3⟩ hc => ⟨γ, sl, ob, rest, h1, h2, h3.stab hc⟩
      stabx := fun CH PR W W' ⟨γ, sl, ob, o, cj, h1, h2, h3⟩ hc => ⟨γ, sl, ob, o, cj, h1, h2, h3.stab hc⟩
      round := fun pre x rest CH PR W γi vals h1 h2 h3 h4 h5 h6 => round_ok hA hB hyp hna hnh hf hg hkp hs hps (by omega) (by omega) pre x rest CH PR W γi vals h1 h2 h3 h4 h5 h6 }
  obtain ⟨hcalls, hbod⟩ := hΦI f0 _ _ g xs (by rw [hfk]; exact hphi) (by rw [List.length_map, (getOs_ok _ ids os hos).1, ← hids]; simp) (C'.enter γ2 W1 [] ids) (#[.func (.yield l) #[] #[]] ++ a2) hf hg
    (by rw [length_renL]; simp [ha2, Nat.add_comm]) (by rw [List.length_map, (getOs_ok _ ids os hos).1]; omega) (fun k => Iff.rfl) Se l 0 Z (CHo γ4 D l) (PRo C' γ4 D l) ⟨_, hmu0, rfl, rfl⟩ hmu1
    (by
      have ownP : ∀ b, ownB γ3 b → b < W1.heap.size ∧ ¬ blkOf γ2 ids b := by
        intro b h
        refine ⟨let ⟨o, i, g1, g2⟩ := h; blk_lt S3 g1 g2, fun hA => ?_⟩
        obtain ⟨o, i, g1, g2, g3⟩ := own3 b h
        obtain ⟨o', i', k1, k2, k3⟩ := blkA b hA
        exact g1 (S.inj o o' i i' b g2 k2 g3 k3 ▸ k1)
      rintro b (h | h | h | h | ⟨h, h'⟩)
      · exact ownP b (own4 b h)
      · subst h
        refine ⟨(Array.getElem?_eq_some_iff.1 hK1).1, fun hA => ?_⟩
        obtain ⟨o', i', k1, k2, k3⟩ := blkA b hA
        have := blk_lt S k2 k3; omega
      · subst h
        refine ⟨hl1W, fun hA => ?_⟩
        obtain ⟨o', i', k1, k2, k3⟩ := blkA b hA
        have := blk_lt S k2 k3; omega
      · rcases im4 b h with h | h
        · refine ⟨S1.lt b h, fun hA => ?_⟩
          obtain ⟨o', i', k1, k2, k3⟩ := blkA b hA
          obtain ⟨y, hy, hyf⟩ := warm2 o' i' k1 k2
          exact S.unf o' y i' b hy hyf k2 k3 h
        · exact ownP b h
      · refine ⟨Nat.lt_of_lt_of_le h S1.chg.size, fun hA => ?_⟩
        obtain ⟨o', i', k1, k2, k3⟩ := blkA b hA
        rcases S.own o' i' b k2 k3 with h2 | h2
        · exact h' h2
        · omega)
    (by
      have nim : ∀ b, (C'.enter γ2 W1 [] ids).g0.im b → γ.im b := by
        rintro b (h | ⟨o, i, ho, _⟩)
        · exact h
        · cases ho
      rintro b (⟨h1, h2⟩ | h | h)
      · exact ⟨.inl h1, fun h => h2 (imk4 b (nim b h))⟩
      · exact ⟨.inr (.inl h), fun h' => by have := S.lt b (nim b h'); omega⟩
      · exact ⟨.inr (.inr (.inl h)), fun h' => by have := S.lt b (nim b h'); omega⟩)
    (by
      rintro b ((h | ⟨o, i, ho, _⟩) | h | h)
      · exact S.imn b h
      · cases ho
      · obtain ⟨o', i', k1, k2, k3⟩ := blkA b h
        exact .inr (S.own o' i' b k2 k3)
      · exact .inr (.inr (Nat.le_trans S1.chg.size h)))
    ⟨γ4, y.1, y.2, xs, rfl, H, S4.unext X3, rfl, rfl,
      (fun h => by
        rcases im4 D h with h | h
        · have := S.lt D h; omega
        · obtain ⟨o, i, _, h1, h2⟩ := own3 D h; have := blk_lt S h1 h2; omega),
      (fun h => by
        rcases im4 l h with h | h
        · have := S.lt l h; omega
        · obtain ⟨o, i, _, h1, h2⟩ := own3 l h; have := blk_lt S h1 h2; omega), hK1, hL1⟩
  refine ⟨l, [{ target := .collected D, args := #[] }], W1, { target := .fn (.func f0) a2, args := #[.func (.yield l) #[] #[]] }, W1, f0, #[.func (.yield l) #[] #[]] ++ a2, W1, ?_, ?_, fun f' _ => trivial, ?_, fun h => by simp [Fence.wide] at h, ?_⟩
  · rw [← hW1, ← hl0, ← hD0]; exact run_enterLoop_outer _ _ _ _ _
  · simp only [resolve, hev]
    simp [go_sem]
  · simp [invoke, go_sem, run_callFunc hbod]
  · refine callsIn_wide.2 (callsIn_wide.1 (CallsIn.mono hcalls ?_))
    have tail : ∀ (γ4 : Gh) (sl4 : SL) (ob4 : OB) (lo : Loop) (CH PR : Nat → Prop) (W : World) (o : Out), JS C' a.tmps D l lo γ4 sl4 ob4 CH PR W → K o sl4 ob4 = some r → ∀ lo', Post C T M K (exitOf o) { a with defers := { target := .collected D, args := #[] } :: a.defers } (W.putObj l (.loop lo')) := by
      intro γ4 sl4 ob4 lo CH PR W o hJ hK lo'
      have ownl : ¬ ownB γ4 l := fun h => by rcases own_cells hJ.st h with ⟨cs, t, fr, e⟩ | ⟨es, c, e⟩ <;> rw [hJ.hl] at e <;> cases e
      have ownD : ¬ ownB γ4 D := fun h => by rcases own_cells hJ.st h with ⟨cs, t, fr, e⟩ | ⟨es, c, e⟩ <;> rw [hJ.hD] at e <;> cases e
      have hDW := (Array.getElem?_eq_some_iff.1 hJ.hD).1
      have q2 : ∀ b, b < W.heap.size → b = l → ¬ γ4.im b ∧ ¬ ownB γ4 b := fun b _ e => by subst e; exact ⟨hJ.iml, ownl⟩
      have hc4 : Chg (fun b => b = l) W (W.putObj l (.loop lo')) := Chg.put _ _ _
      refine ⟨hs, o, sl4, ob4, γ4, r, rfl, hK, C'.re γ4 (W.putObj l (.loop lo')) C'.kp, hf, hg, ?_, hJ.st.rebase C'.kp hc4 q2⟩
      refine hRt C' a.defers r sl4 sl4 γ4 W _ a.tmps ob4 (fun b => b = l) D (hT _ _ _ _ _ (fun h => by rw [hyp] at h; cases h) hTT) hJ.st hc4 (fun b hb e => by omega) q2 (by rw [World.putObj_size]; exact hDW) ownD hJ.imD (by omega) ((World.putObj_heap_other (by omega)).trans hJ.hD)
    rintro e w' ⟨⟨v, rfl⟩, ⟨CH, PR, γ4, sl4, ob4, rest, h1, h2, h3⟩ | ⟨CH, PR, γ4, sl4, ob4, o, cj, h1, h2, h3⟩⟩
    · have hr : rest = [] := by
        have := congrArg List.length h1
        simp at this
        exact this
      subst hr
      exact ⟨none, _, run_endLoop h3.hl (by simp [recO]), tail γ4 sl4 ob4 _ CH PR w' .norm h3 h2 _⟩
    · refine ⟨some cj, _, run_endLoop h3.hl (by simp [recO]), ?_⟩
      have := tail γ4 sl4 ob4 _ CH PR w' o h3 h2 (recO fn a.tmps ps as c D .exhausted (some cj))
      cases o with
      | norm => cases h1
      | exit id => injection h1 with h1; subst h1; exact wpIn_exit this
      | goto t => injection h1 with h1; subst h1; exact wpIn_goto this
      | ret => injection h1 with h1; subst h1; exact wpIn_ret this
end
end
end Go.Proofs.Ytnkapponcbgbhaa
