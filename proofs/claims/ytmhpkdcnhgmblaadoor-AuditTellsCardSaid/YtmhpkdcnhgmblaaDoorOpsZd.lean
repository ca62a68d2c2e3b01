import Derived.Test.YtmhpkdcnhgmblaaDoorOpsZc
set_option linter.all false
namespace Go.Proofs.YtmhpkdcnhgmblaaDoor
section
open Go
section
variable {P : Program} {E : Env} {C : Ctx} {γ : Gh} {w : World} {a : Act} {sl : SL} {ob : OB}
theorem mkS_ok (S : St C γ w a.tmps sl ob) {t e : TypeId} {x : Value} {xv : PV} {r : Up} (ht : P.underlying t = some (.slice e)) (he : P.underlying e = some (.int .u8)) (hx : RV C.fid γ w.heap x xv) (H : mkS ob xv = some r) :
    ∃ (v : Value) (w' : World) (γ' : Gh), (convert t t x).run P w = .ok v w' ∧ RV C.fid γ' w'.heap v r.1 ∧ St C γ' w' a.tmps sl (r.2 ++ ob) := by
  unfold mkS at H
  split at H
  · rename_i o ver lo n
    cases hY : getO ob o with
    | none => simp [hY, mkX] at H
    | some Y =>
      simp only [hY, mkX] at H
      split at H
      · rename_i hc
        obtain ⟨hver, hpu, hfro, hlo, hpos, hn⟩ := hc
        injection H with H; subst H; subst hlo
        obtain ⟨I, hI, hv, base, c, rfl, hh⟩ := RV_sl.1 hx
        obtain ⟨I', hI', q1, q2, q3, q4⟩ := S.obj o Y hY
        rw [hI] at hI'; injection hI' with hI'; subst hI'
        obtain ⟨k1, k2, k3⟩ := hh (by omega)
        obtain ⟨b, hbk, rfl⟩ := k3 (by omega)
        simp only [hbk] at q4
        obtain ⟨p1, cs, ⟨tt, fr, p2, p2'⟩, p3, p4⟩ := q4
        have p4 : PEls w.heap (γ.q Y.g) cs I.w 0 Y.els := by
          rcases p4 with ⟨_, p4⟩ | ⟨hp, _⟩
          · exact p4
          · rw [hpu] at hp; cases hp
        have hsh : w.shape? b = some (tt, cs.size) := by unfold World.shape?; rw [p2]
        obtain ⟨f1, f2⟩ := fr
        let fr' : Nat × Nat := if f1 == f2 then (cs.size, cs.size + 1) else (min f1 cs.size, max f2 (cs.size + 1))
        let w' : World := w.freeze { block := b, off := cs.size } 1
        have hb' : w'.heap[b]? = some (.cells cs tt fr') := by
          show (w.heap.modify b _)[b]? = _
          rw [Array.getElem?_modify, if_pos rfl, p2]; rfl
        have hfr : fr'.1 = fr'.2 ∨ cs.size ≤ fr'.1 := by
          simp only [fr']
          split
          · exact .inr (Nat.le_refl _)
          · rename_i hne
            simp only at p2'
            rcases p2' with h | h
            · exact absurd (by simpa using h) hne
            · exact .inr (by simp; omega)
        have hwr : Wr w w' b := ⟨rfl, rfl, rfl, by simp [w', World.freeze], fun k hk => by
          show (w.heap.modify b _)[k]? = _
          rw [Array.getElem?_modify, if_neg (Ne.symm hk)]⟩
        have hrun : (convert t t (.slice (some ⟨b, 0 * I.w, none⟩) n c)).run P w = .ok (.slice (some ⟨b, 0 * I.w, none⟩) n c) w' := by
          simp [convert, run_underlying' ht, run_underlying' he, markStringish, hsh, w']
        refine ⟨_, w', _, hrun, RV_sl.2 ⟨I, Gh.set_mu .., hv, _, c, rfl, fun _ => ⟨k1, k2, fun _ => ⟨b, hbk, rfl⟩⟩⟩, S.rep (i' := I) hY hfro hI (.inl rfl) (fun b' hb2 => hwr.other b' (fun e => S.unf o Y I b hY hfro hI hbk (e ▸ hb2))) (fun o' j b2 ho hj hb2 => hwr.other b2 (fun e => ho (by subst e; exact S.inj o' o j I b2 hj hI hb2 hbk))) (hwr.chg (S.own o I b hI hbk)) q1 q2 q3 hpu ?_⟩
        simp only [hbk]
        exact ⟨p1, .inl trivial, cs, ⟨tt, fr', hb', hfr⟩, p3, p4⟩
      · cases H
  · cases H
variable (hE : E.fid = C.fid) (hG : E.glob = C.glob) (S : St C γ w a.tmps sl ob)
include hE hG S
theorem opO_ok {Φ : Sem'} {o : Oper} {d : Nat} {r : Up} (hcall : ∀ f args tys, o.op ≠ .call { callee := .value f, args := args, argTypes := tys }) (H : opO P E Φ sl ob d o.op = some (some r)) :
    OK P C a.eval w a.tmps sl ob o r := by
  have wrap : ∀ {s : Sem Value}, (∃ (x : Value) (w' : World) (γ' : Gh), s.run P w = .ok x w' ∧ RV C.fid γ' w'.heap x r.1 ∧ St C γ' w' a.tmps sl (r.2 ++ ob)) → execOp a.eval o = (do pure (.value (← s))) → OK P C a.eval w a.tmps sl ob o r := by
    rintro s ⟨x, w', γ', h1, h2, h3⟩ he
    exact ⟨.value x, x, w', γ', by rw [he]; simp [h1], .inl rfl, h2, h3⟩
  have ev := ev_ok hE hG S
  unfold opO at H
  split at H
  · 
    rename_i t ho
    split at H
    · rename_i z hz
      injection H with H
      exact wrap (alloc_ok S hz H) (by simp only [execOp, ho])
    · cases H
  · 
    rename_i t x ho
    injection H with H
    obtain ⟨γ', h1, h2, h3⟩ := bx_ok (P := P) (t := t) S (ev x) H
    exact wrap ⟨_, _, γ', h1, h2, h3⟩ (by simp only [execOp, ho])
  · 
    rename_i t n parts ho
    split at H
    · rename_i e hu
      split at H
      · rename_i hc
        simp only [Bool.and_eq_true, beq_iff_eq, decide_eq_true_eq] at hc
        split at H
        · rename_i z hz
          injection H with H
          split at H
          · exact wrap (bldP_ok hE hG S hu hz hc.1.1.1 hc.2 hc.1.1.2 hc.1.2 H) (by simp only [execOp, ho])
          · exact wrap (bldS_ok hE hG S hu hz hc.1.1.1 hc.2 hc.1.1.2 hc.1.2 H) (by simp only [execOp, ho])
        · cases H
      · cases H
    · cases H
  · 
    rename_i t x v ho
    split at H
    · rename_i hk
      injection H with H
      obtain ⟨w', γ', h1, h2, h3⟩ := st_ok S (ev x) (ev v) hk H
      refine ⟨.skip, undef, w', γ', by simp [execOp, ho, h1], .inr ⟨rfl, rfl⟩, ?_, h3⟩
      rw [h2]; exact RV_tup.2 ⟨#[], rfl, rfl, by simp only [RL]⟩
    · cases H
  · 
    rename_i t l c ho
    split at H
    · rename_i e l' c' hu
      split at H
      · rename_i hlc
        subst hlc
        split at H
        · rename_i z hz
          injection H with H
          exact wrap (mks_ok S hu hz (ev (.tmp l')) H) (by simp only [execOp, ho])
        · cases H
      · cases H
    · rename_i e n m hu
      split at H
      · rename_i hlc
        subst hlc
        split at H
        · rename_i z hz
          injection H with H
          exact wrap (mks_ok S hu hz (ev (.const (.int .i64 n))) H) (by simp only [execOp, ho])
        · cases H
      · cases H
    · cases H
  · 
    rename_i t x lo hi mx ho
    split at H
    · cases H
    · rename_i hmx
      have hmx : (mx.isSome && hi.isNone) = false := Bool.eq_false_iff.2 hmx
      split at H
      · rename_i n e hu
        split at H
        · rename_i h1
          injection H with H
          obtain ⟨y, γ', g1, g2, g3⟩ := slcA_ok hE hG S hmx hu h1 H
          exact wrap ⟨y, w, γ', g1, g2, g3⟩ (by simp only [execOp, ho])
        · cases H
      · rename_i e hu
        split at H
        · rename_i hk
          injection H with H
          obtain ⟨y, γ', g1, g2, g3⟩ := slc_ok hE hG S hmx hu hk H
          exact wrap ⟨y, w, γ', g1, g2, g3⟩ (by simp only [execOp, ho])
        · cases H
      · rename_i hu
        injection H with H
        obtain ⟨y, γ', g1, g2, g3⟩ := slcS_ok hE hG S hmx hu H
        exact wrap ⟨y, w, γ', g1, g2, g3⟩ (by simp only [execOp, ho])
      · cases H
  · 
    rename_i src dst x ho
    split at H
    · rename_i e hs hd'
      split at H
      · rename_i he
        injection H with H
        exact wrap (s2b_ok S hs hd' (by exact he) (ev x) H) (by simp only [execOp, ho])
      · cases H
    · rename_i e0 e hs hd'
      split at H
      · rename_i hc
        subst hc
        split at H
        · rename_i he
          injection H with H
          exact wrap (mkS_ok S hd' (by exact he) (ev x) H) (by simp only [execOp, ho])
        · cases H
      · cases H
    · cases H
  · 
    rename_i args argTypes ho
    split at H
    · rename_i x y t u h1 h2
      have e0 : argTypes[0]? = some t := by rw [← Array.getElem?_toList, h2]; rfl
      have e1 : argTypes[1]? = some u := by rw [← Array.getElem?_toList, h2]; rfl
      have ea : args = #[x, y] := by rw [← Array.toArray_toList (xs := args), h1]
      split at H
      · rename_i e hu
        split at H
        · rename_i z hz
          split at H
          · rename_i hc
            simp only [Bool.and_eq_true, decide_eq_true_eq] at hc
            obtain ⟨du, hdu⟩ := known_some hc.2
            obtain ⟨i, zv, hi, hzv, hs1, hs2, hby, hcB, hzR⟩ := zeroT_R (fid := C.fid) (γ := γ) (h := w.heap) hz
            have hcell : P.cellsOf e = wds z := by simp [Program.cellsOf, hi, hs2]
            by_cases hptr : ptrE P e = true
            · rw [if_pos hptr] at H
              split at H
              · rename_i hint
                injection H with H
                obtain ⟨k, rfl⟩ : ∃ k, du = .int k := by
                  unfold isInt at hint
                  rw [hdu] at hint
                  cases du <;> first | exact ⟨_, rfl⟩ | simp at hint
                have hy := ev y
                generalize Go.Proofs.YtmhpkdcnhgmblaaDoor.ev E sl y = yv at hy H
                cases yv <;> simp only [apzN] at H <;> try (cases H; done)
                rename_i k' m
                split at H
                · rename_i hm
                  obtain ⟨m0, m1⟩ := hm
                  rw [RV_i] at hy
                  obtain ⟨m', rfl⟩ : ∃ m' : Nat, m = m' := ⟨m.toNat, by omega⟩
                  simp only [two32] at m1
                  simp only [Int.toNat_natCast] at H
                  obtain ⟨v, w', γ', g1, g2, g3⟩ := apNE_ok (ty := o.type) (y := .int k' m') S hs1 hc.1 (ev x) (fun _ => apdN_int (at' := argTypes) e0 e1 hu hdu hi hzv hs1 hs2 hby hc.1 hzR (by omega)) H
                  exact ⟨.value v, v, w', γ', by simp [execOp, ho, resolve, invoke, builtin, ea, hy, g1], .inl rfl, g2, g3⟩
                · cases H
              · rename_i hint
                injection H with H
                unfold apN at H
                cases hcn : contN ob (Go.Proofs.YtmhpkdcnhgmblaaDoor.ev E sl y) with
                | none => simp [hcn, apNC] at H
                | some q =>
                  simp only [hcn, apNC] at H
                  rw [hcell] at H
                  have hni : ∀ k, du ≠ .int k := fun k e => hint (by simp [isInt, hdu, e])
                  obtain ⟨v, w', γ', g1, g2, g3⟩ := apNE_ok (ty := o.type) S hs1 hc.1 (ev x) (fun hW => apdN_src e0 e1 hu hdu hi hzv hs2 hby hc.1 hni (contN_ok S (ev y) hcn) hW) H
                  exact ⟨.value v, v, w', γ', by simp [execOp, ho, resolve, invoke, builtin, ea, g1], .inl rfl, g2, g3⟩
            rw [if_neg hptr] at H
            split at H
            · rename_i hint
              injection H with H
              obtain ⟨k, rfl⟩ : ∃ k, du = .int k := by
                unfold isInt at hint
                rw [hdu] at hint
                cases du <;> first | exact ⟨_, rfl⟩ | simp at hint
              have hy := ev y
              generalize Go.Proofs.YtmhpkdcnhgmblaaDoor.ev E sl y = yv at hy H
              cases yv <;> simp only [apz] at H <;> try (cases H; done)
              rename_i k' m
              split at H
              · rename_i hm
                obtain ⟨m0, m1, m2⟩ := hm
                rw [RV_i] at hy
                obtain ⟨m', rfl⟩ : ∃ m' : Nat, m = m' := ⟨m.toNat, by omega⟩
                simp only [two32] at m1
                simp only [Int.toNat_natCast] at H
                obtain ⟨v, w', γ', g1, g2, g3⟩ := apE_ok (ty := o.type) (y := .int k' m') S hs1 hc.1 (ev x) (fun _ => apd_int (at' := argTypes) e0 e1 hu hdu hi hzv hs1 hs2 hby hc.1 hcB (by omega) m2) H
                exact ⟨.value v, v, w', γ', by simp [execOp, ho, resolve, invoke, builtin, ea, hy, g1], .inl rfl, g2, g3⟩
              · cases H
            · rename_i hint
              injection H with H
              unfold ap at H
              cases hcn : cont ob (Go.Proofs.YtmhpkdcnhgmblaaDoor.ev E sl y) with
              | none => simp [hcn, apC] at H
              | some q =>
                simp only [hcn, apC] at H
                rw [hcell] at H
                have hni : ∀ k, du ≠ .int k := fun k e => hint (by simp [isInt, hdu, e])
                obtain ⟨v, w', γ', g1, g2, g3⟩ := apE_ok (ty := o.type) S hs1 hc.1 (ev x) (fun hW => apd_src e0 e1 hu hdu hi hzv hs2 hby hc.1 hni (cont_ok S (ev y) hcn) hW) H
                exact ⟨.value v, v, w', γ', by simp [execOp, ho, resolve, invoke, builtin, ea, g1], .inl rfl, g2, g3⟩
          · cases H
        · cases H
      · cases H
    · cases H
  · 
    rename_i args argTypes ho
    split at H
    · rename_i x y t r' h1 h2
      have e0 : argTypes[0]? = some t := by rw [← Array.getElem?_toList, h2]; rfl
      have ea : args = #[x, y] := by rw [← Array.toArray_toList (xs := args), h1]
      split at H
      · rename_i e hu
        split at H
        · rename_i hc
          simp only [Bool.and_eq_true, decide_eq_true_eq] at hc
          injection H with H
          by_cases hptr : ptrE P e = true
          · rw [if_pos hptr] at H
            unfold cpN at H
            cases hcn : contN ob (Go.Proofs.YtmhpkdcnhgmblaaDoor.ev E sl y) with
            | none => simp [hcn, cpNC] at H
            | some q =>
              simp only [hcn, cpNC] at H
              obtain ⟨v, w', γ', g1, g2, g3⟩ := cpNX_ok (ty := o.type) S e0 hu hc.1 hc.2 (ev x) (contN_ok S (ev y) hcn) H
              exact ⟨.value v, v, w', γ', by simp [execOp, ho, resolve, invoke, builtin, ea, g1], .inl rfl, g2, g3⟩
          rw [if_neg hptr] at H
          unfold cpy at H
          cases hcn : cont ob (Go.Proofs.YtmhpkdcnhgmblaaDoor.ev E sl y) with
          | none => simp [hcn, cpC] at H
          | some q =>
            simp only [hcn, cpC] at H
            obtain ⟨v, w', γ', g1, g2, g3⟩ := cpX_ok (ty := o.type) S e0 hu hc.1 hc.2 (ev x) (cont_ok S (ev y) hcn) H
            exact ⟨.value v, v, w', γ', by simp [execOp, ho, resolve, invoke, builtin, ea, g1], .inl rfl, g2, g3⟩
        · cases H
      · cases H
    · cases H
  · rename_i f args tys ho; exact absurd ho (hcall _ _ _)
  · rename_i f args tys ho; exact absurd ho (hcall _ _ _)
  · cases H
end
end
section
open Go
def Gh.good (γ : Gh) : Gh := { γ with im := fun b => γ.im b ∧ γ.gn b }
section
variable {fid : Nat → Nat} {γ : Gh} {h : Array Obj}
theorem q_good {b : Nat} (H : γ.q true b) : γ.good.q true b ∧ h[b]? = h[b]? := ⟨⟨⟨H.1, H.2 rfl⟩, fun _ => H.2 rfl⟩, rfl⟩
mutual
theorem RAt_good : ∀ (v : PV) (cs : Array Value) (off : Nat), noExt v = true → RAt fid γ h cs off v → RAt fid γ.good h cs off v
  | .b _, _, _, _, H | .i _ _, _, _, _, H | .s _, _, _, _, H | .blob _ _, _, _, _, H | .np, _, _, _, H | .nf, _, _, _, H | .ub, _, _, _, H | .un, _, _, _, H | .e _, _, _, _, H
    => by simpa only [RAt] using H
  | .sl .., _, _, _, H | .bs .., _, _, _, H | .p .., _, _, _, H => by simp only [RAt] at H ⊢; exact H
  | .l g xs, cs, off, hn, H => by
    simp only [noExt] at hn; subst hn
    simp only [RAt] at H ⊢; exact PAt_mono (fun b hb => q_good hb) _ _ _ H
  | .ln g xs, cs, off, hn, H => by
    simp only [noExt] at hn; subst hn
    simp only [RAt] at H ⊢; exact ⟨PAt_mono (fun b hb => q_good hb) _ _ _ H.1, H.2⟩
  | .q g xs bi, cs, off, hn, H => by
    simp only [noExt] at hn; subst hn
    simp only [RAt] at H ⊢
    obtain ⟨b, o, cs', e, hb, hr, H⟩ := H
    exact ⟨b, o, cs', e, (q_good (h := h) hb).1, hr, PCells_mono (fun b hb => q_good hb) _ _ _ H⟩
  | .agg xs, cs, off, hn, H => by
    simp only [noExt] at hn
    simp only [RAt] at H ⊢
    obtain ⟨arr, e, hs, H⟩ := H
    exact ⟨arr, e, hs, RCells_good xs arr 0 hn H⟩
  | .tup vs, cs, off, hn, H => by
    simp only [noExt] at hn
    simp only [RAt] at H ⊢
    obtain ⟨arr, e, hs, H⟩ := H
    exact ⟨arr, e, hs, RL_good vs arr 0 hn H⟩
  | .fn k fs cap, cs, off, hn, H => by
    simp only [noExt, Bool.and_eq_true] at hn
    simp only [RAt] at H ⊢
    obtain ⟨f0, a1, a2, e, ef, H1, H2⟩ := H
    exact ⟨f0, a1, a2, e, ef, ⟨H1.1, RL_good fs a1 0 hn.1 H1.2⟩, H2.1, RL_good cap a2 0 hn.2 H2.2⟩
  | .y _ _ _, cs, off, _, H => by simp only [RAt] at H ⊢; exact H
theorem RCells_good : ∀ (l : List PV) (cs : Array Value) (off : Nat), noExts l = true → RCells fid γ h cs off l → RCells fid γ.good h cs off l
  | [], _, _, _, _ => by simp only [RCells]
  | v :: r, cs, off, hn, H => by
    simp only [noExts, Bool.and_eq_true] at hn
    simp only [RCells] at H ⊢
    exact ⟨⟨H.1.1, RAt_good v cs off hn.1 H.1.2⟩, RCells_good r cs _ hn.2 H.2⟩
theorem RL_good : ∀ (l : List PV) (cs : Array Value) (off : Nat), noExts l = true → RL fid γ h cs off l → RL fid γ.good h cs off l
  | [], _, _, _, _ => by simp only [RL]
  | v :: r, cs, off, hn, H => by
    simp only [noExts, Bool.and_eq_true] at hn
    simp only [RL] at H ⊢
    obtain ⟨⟨x, hx, H1⟩, H2⟩ := H
    exact ⟨⟨x, hx, RAt_good v #[x] 0 hn.1 H1⟩, RL_good r cs _ hn.2 H2⟩
end
theorem REls_good : ∀ (l : List (List PV)) (cs : Array Value) (w off : Nat), noExtEls l = true → REls fid γ h cs w off l → REls fid γ.good h cs w off l
  | [], _, _, _, _, _ => by simp only [REls]
  | x :: r, cs, w, off, hn, H => by
    simp only [noExtEls, Bool.and_eq_true] at hn
    simp only [REls] at H ⊢
    exact ⟨H.1, RCells_good x cs off hn.1 H.2.1, REls_good r cs w _ hn.2 H.2.2⟩
theorem ORel_good {x : Obj'} {i : HI} (hn : noExtO x = true) (H : ORel fid γ h x i) : ORel fid γ.good h x i := by
  obtain ⟨h1, h2, h3, h4⟩ := H
  refine ⟨h1, h2, h3, ?_⟩
  cases hbk : i.blk with
  | none => simpa only [hbk] using h4
  | some b =>
    simp only [hbk] at h4 ⊢
    obtain ⟨hw, cs, ho, ht, H⟩ := h4
    refine ⟨hw, cs, ho, ht, ?_⟩
    rcases H with ⟨hp, H⟩ | ⟨hp, H⟩
    · simp only [noExtO, hp, if_true] at hn
      rw [hn] at H ⊢
      exact .inl ⟨hp, PEls_mono (fun b hb => q_good hb) _ _ _ _ H⟩
    · simp only [noExtO, hp, Bool.false_eq_true, if_false] at hn
      exact .inr ⟨hp, REls_good _ _ _ _ hn H⟩
end
structure Lent (γ γ' : Gh) (L : List Nat) : Prop where
  mu : ∀ o i, γ.mu o = some i → γ'.mu o = some i
  q : ∀ g b, γ.q g b → γ'.q g b
  im : ∀ o i b, o ∈ L → γ.mu o = some i → i.blk = some b → γ'.im b
theorem Lent.sub {γ γ' : Gh} {L L' : List Nat} (l : Lent γ γ' L) (h : ∀ o, o ∈ L' → o ∈ L) : Lent γ γ' L' := ⟨l.mu, l.q, fun o i b ho => l.im o i b (h o ho)⟩
theorem Lent.mv {γ γ' : Gh} {L : List Nat} (l : Lent γ γ' L) (h : Array Obj) (S : List Nat) : Mv γ γ' h h S (fun o => o) := ⟨fun o _ i hi => ⟨i, l.mu o i hi, .inl rfl⟩, fun g b hb => ⟨l.q g b hb, rfl⟩⟩
section
variable {C : Ctx} {γ γ' : Gh} {w : World} {act : Act} {sl : SL} {ob : OB}
theorem lend_row (S : St C γ w act.tmps sl ob) {o ver lo n : Nat} {cs : Array Value} {off : Nat} {r : Bool × List (List PV)} (hl : Lent γ γ' [o]) (H : RAt C.fid γ w.heap cs off (.sl o ver lo n)) (hc : contX (getO ob o) ver lo n = some r) :
    RAt C.fid γ' w.heap cs off (.l false r.2) := by
  simp only [RAt] at H
  obtain ⟨i, hi, hv, a, c, e, hh⟩ := H
  have hsl : RV C.fid γ w.heap (.slice a n c) (.sl o ver lo n) := RV_sl.2 ⟨i, hi, hv, a, c, rfl, hh⟩
  obtain ⟨⟨a', c', e', hlc, hS⟩, hlen⟩ := contX_ok S hsl hc
  injection e' with e1 e2 e3; subst e1; subst e3
  simp only [RAt, PAt]
  refine ⟨a, c, by rw [hlen]; exact e, hlc, ?_⟩
  rcases Nat.eq_zero_or_pos n with h0 | hpos
  · exact .inl (List.length_eq_zero_iff.1 (hlen.trans h0))
  refine hS.imp id ?_
  rintro ⟨b, o', w', cs', ea, hrow, hE⟩
  have hbk : i.blk = some b := by
    cases hx : getO ob o with
    | none => simp [hx, contX] at hc
    | some x =>
      rw [hx] at hc
      obtain ⟨i', hi', h1, _⟩ := S.obj o x hx
      rw [hi] at hi'; injection hi' with hi'; subst hi'
      have hver : x.ver = ver := by
        simp only [contX] at hc
        split at hc
        · rename_i h; exact h.2.1
        · cases hc
      obtain ⟨g1, g2, g3⟩ := hh (by omega)
      obtain ⟨b', hb', ea'⟩ := g3 (by omega)
      rw [ea] at ea'; injection ea' with ea'; injection ea' with ea' _; rw [ea']; exact hb'
  exact ⟨b, o', w', cs', ea, ⟨hl.im o i b (by simp) hi hbk, by simp⟩, hrow, PEls_mono (fun b hb => ⟨⟨(hl.q _ b hb).1, by simp⟩, rfl⟩) _ _ _ _ hE⟩
theorem reify0_ok (S : St C γ w act.tmps sl ob) {v v' : PV} {L : List Nat} {cs : Array Value} {off : Nat} (H : reify0 ob v = some (v', L)) (hl : Lent γ γ' L) (hr : RAt C.fid γ w.heap cs off v) :
    RAt C.fid γ' w.heap cs off v' ∧ wd v' = wd v ∧ (cellV v = true → cellV v' = true) := by
  have flatl : ∀ {g : Bool} {xs : List (List PV)}, PAt w.heap (γ.q g) cs off (.l g xs) → RAt C.fid γ' w.heap cs off (.l false xs) := by
    intro g xs h
    simp only [RAt]
    have := PAt_mono (q' := γ'.q false) (h' := w.heap) (fun b hb => ⟨⟨(hl.q g b hb).1, by simp⟩, rfl⟩) _ _ _ h
    simpa only [PAt] using this
  unfold reify0 at H
  split at H
  · simp only [Option.some.injEq, Prod.mk.injEq] at H; obtain ⟨rfl, rfl⟩ := H
    simp only [RAt] at hr
    exact ⟨flatl hr, rfl, fun _ => rfl⟩
  · simp only [Option.some.injEq, Prod.mk.injEq] at H; obtain ⟨rfl, rfl⟩ := H
    simp only [RAt] at hr
    exact ⟨flatl hr.1, rfl, fun _ => rfl⟩
  · simp only [Option.some.injEq, Prod.mk.injEq] at H; obtain ⟨rfl, rfl⟩ := H
    simp only [RAt] at hr
    obtain ⟨a, e, _⟩ := hr
    exact ⟨by simp only [RAt, PAt]; exact ⟨a, 0, e, Nat.zero_le _, .inl trivial⟩, rfl, fun _ => rfl⟩
  · rename_i o ver lo n
    cases hc : contX (getO ob o) ver lo n with
    | none => simp [hc] at H
    | some r =>
      simp only [hc, Option.map_some, Option.some.injEq, Prod.mk.injEq] at H; obtain ⟨rfl, rfl⟩ := H
      exact ⟨lend_row S hl hr hc, rfl, fun _ => rfl⟩
  · rename_i o o' lo n
    cases hc : contL ob (.bs o o' lo n) with
    | none => simp [hc] at H
    | some r =>
      simp only [hc, Option.map_some, Option.some.injEq, Prod.mk.injEq] at H; obtain ⟨rfl, rfl⟩ := H
      refine ⟨?_, rfl, fun _ => rfl⟩
      simp only [RAt] at hr
      obtain ⟨i, hi, a, c, e, hn, hh⟩ := hr
      have hbs : RV C.fid γ w.heap (.slice (some a) n c) (.bs o o' lo n) := RV_bs.2 ⟨i, hi, a, c, rfl, hn, hh⟩
      obtain ⟨a', c', e', hlc, hS⟩ := contL_ok S hbs hc
      injection e' with e1 e2 e3; subst e1; subst e3
      simp only [RAt, PAt]
      refine ⟨some a, c, by rw [← e2]; exact e, hlc, ?_⟩
      rcases Nat.eq_zero_or_pos n with h0 | hpos
      · exact .inl (List.length_eq_zero_iff.1 (e2.symm.trans h0))
      refine hS.imp id ?_
      rintro ⟨b, o2, w', cs', ea, hrow, hE⟩
      have hver : i.ver = 0 := by
        cases hr : atO (getO ob o) 0 0 o' with
        | none => simp [contL, hr, blobAt, contB] at hc
        | some cells =>
          cases ho : getO ob o with
          | none => simp [ho, atO] at hr
          | some X =>
            simp only [ho, atO] at hr
            split at hr
            · rename_i hver
              obtain ⟨I', hI', h1, _⟩ := S.obj o X ho
              rw [hi] at hI'; injection hI' with hI'; subst hI'
              omega
            · cases hr
      obtain ⟨b', hb', ea'⟩ := hh hver.symm (by omega)
      injection ea with ea
      have hbb : b' = b := by rw [ea] at ea'; injection ea' with h1 _; exact h1.symm
      subst hbb
      exact ⟨b', o2, w', cs', by rw [ea], ⟨hl.im o i b' (by simp) hi hb', by simp⟩, hrow, PEls_mono (fun b hb => ⟨⟨(hl.q _ b hb).1, by simp⟩, rfl⟩) _ _ _ _ hE⟩
  · simp only [Option.some.injEq, Prod.mk.injEq] at H; obtain ⟨rfl, rfl⟩ := H
    exact ⟨RAt_mono (hl.mv _ _) hr, rfl, id⟩
theorem reifyL_ok (S : St C γ w act.tmps sl ob) : ∀ {l l' : List PV} {L : List Nat} {cs : Array Value} {off : Nat}, reifyL ob l = some (l', L) → Lent γ γ' L → RCells C.fid γ w.heap cs off l → RCells C.fid γ' w.heap cs off l' ∧ wds l' = wds l
  | [], l', L, cs, off, H, _, _ => by
    simp only [reifyL, Option.some.injEq, Prod.mk.injEq] at H; obtain ⟨rfl, rfl⟩ := H
    exact ⟨by simp only [RCells], rfl⟩
  | v :: r, l', L, cs, off, H, hl, hr => by
    simp only [reifyL] at H
    split at H
    · rename_i a b ha hb
      simp only [Option.some.injEq, Prod.mk.injEq] at H; obtain ⟨rfl, rfl⟩ := H
      simp only [RCells] at hr
      obtain ⟨h1, h2, h3⟩ := reify0_ok (v' := a.1) (L := a.2) S ha (hl.sub fun o ho => List.mem_append_left _ ho) hr.1.2
      obtain ⟨g1, g2⟩ := reifyL_ok (l' := b.1) (L := b.2) S hb (hl.sub fun o ho => List.mem_append_right _ ho) hr.2
      exact ⟨by simp only [RCells]; exact ⟨⟨h3 hr.1.1, h1⟩, by rw [h2]; exact g1⟩, by simp only [wds, h2, g2]⟩
    · cases H
theorem reifyEls_ok (S : St C γ w act.tmps sl ob) : ∀ {l l' : List (List PV)} {L : List Nat} {cs : Array Value} {w' off : Nat}, reifyEls ob l = some (l', L) → Lent γ γ' L → REls C.fid γ w.heap cs w' off l → REls C.fid γ' w.heap cs w' off l' ∧ l'.length = l.length
  | [], l', L, cs, w', off, H, _, _ => by
    simp only [reifyEls, Option.some.injEq, Prod.mk.injEq] at H; obtain ⟨rfl, rfl⟩ := H
    exact ⟨by simp only [REls], rfl⟩
  | x :: r, l', L, cs, w', off, H, hl, hr => by
    simp only [reifyEls] at H
    split at H
    · rename_i a b ha hb
      simp only [Option.some.injEq, Prod.mk.injEq] at H; obtain ⟨rfl, rfl⟩ := H
      simp only [REls] at hr
      obtain ⟨h1, h2⟩ := reifyL_ok (l' := a.1) (L := a.2) S ha (hl.sub fun o ho => List.mem_append_left _ ho) hr.2.1
      obtain ⟨g1, g2⟩ := reifyEls_ok (l' := b.1) (L := b.2) S hb (hl.sub fun o ho => List.mem_append_right _ ho) hr.2.2
      exact ⟨by simp only [REls]; exact ⟨by rw [h2]; exact hr.1, h1, g1⟩, by simp [g2]⟩
    · cases H
theorem REls_sub {fid : Nat → Nat} {h : Array Obj} {cs : Array Value} {w' off : Nat} {l : List (List PV)} (H : REls fid γ h cs w' off l) (lo n : Nat) : REls fid γ h cs w' (off + lo * w') ((l.drop lo).take n) :=
  REls_of fun i x hx => by
    have hi : i < n := by
      have := (List.getElem?_eq_some_iff.1 hx).1
      simp only [List.length_take] at this; omega
    rw [List.getElem?_take_of_lt hi, List.getElem?_drop] at hx
    have := REls_get H _ x hx
    rwa [Nat.add_mul, ← Nat.add_assoc] at this
theorem reify_ok (S : St C γ w act.tmps sl ob) {v v' : PV} {L : List Nat} {x : Value} (H : reify ob v = some (v', L)) (hl : Lent γ γ' L) (hr : RV C.fid γ w.heap x v) : RV C.fid γ' w.heap x v' := by
  unfold reify at H
  split at H
  · rename_i cs
    cases hc : reifyL ob cs with
    | none => simp [hc] at H
    | some r =>
      simp only [hc, Option.map_some, Option.some.injEq, Prod.mk.injEq] at H; obtain ⟨rfl, rfl⟩ := H
      obtain ⟨arr, e, hs, hR⟩ := RV_agg.1 hr
      obtain ⟨h1, h2⟩ := reifyL_ok (l' := r.1) (L := r.2) S hc hl hR
      exact RV_agg.2 ⟨arr, e, by rw [h2]; exact hs, h1⟩
  · rename_i o ver lo n
    cases hx : getO ob o with
    | none => simp [hx] at H
    | some X =>
      simp only [hx] at H
      split at H
      · exact (reify0_ok S H hl hr).1
      · rename_i hpu
        split at H
        · rename_i hc
          cases hre : reifyEls ob ((X.els.drop lo).take n) with
          | none => simp [hre] at H
          | some q =>
            simp only [hre, Option.bind_some] at H
            split at H
            · rename_i hp
              simp only [Option.some.injEq, Prod.mk.injEq] at H; obtain ⟨rfl, rfl⟩ := H
              obtain ⟨i, hi, hv, a, c, e, hh⟩ := RV_sl.1 hr
              obtain ⟨i', hi', q1, q2, q3, q4⟩ := S.obj o X hx
              rw [hi] at hi'; injection hi' with hi'; subst hi'
              obtain ⟨k1, k2, k3⟩ := hh (by omega)
              have hlen : ((X.els.drop lo).take n).length = n := by simp; omega
              rw [RV_l]
              rcases Nat.eq_zero_or_pos n with h0 | hpos
              · subst h0
                simp only [List.take_zero, reifyEls, Option.some.injEq] at hre
                rw [← hre]
                exact ⟨a, c, by rw [e]; rfl, Nat.zero_le _, .inl rfl⟩
              · obtain ⟨b, hbk, ea⟩ := k3 (by omega)
                simp only [hbk] at q4
                obtain ⟨p1, cs, p2, p3, p4⟩ := q4
                rcases p4 with ⟨hp', _⟩ | ⟨_, p4⟩
                · exact absurd hp' hpu
                · have hsub := REls_sub p4 lo n
                  rw [Nat.zero_add] at hsub
                  obtain ⟨g1, g2⟩ := reifyEls_ok (l' := q.1) (L := q.2) S hre (hl.sub fun o ho => List.mem_cons_of_mem _ ho) hsub
                  refine ⟨a, c, by rw [e, g2, hlen], by rw [g2, hlen]; exact k2, .inr ⟨b, lo * i.w, i.w, cs, ea, ⟨hl.im o i b (by simp) hi hbk, by simp⟩, p2.row, pure_E hp (by simp) g1⟩⟩
            · cases H
        · cases H
  · exact (reify0_ok S H hl hr).1
theorem reifies_ok (S : St C γ w act.tmps sl ob) : ∀ {l l' : List PV} {L : List Nat} {args : Array Value} {off : Nat}, reifies ob l = some (l', L) → Lent γ γ' L → RL C.fid γ w.heap args off l → RL C.fid γ' w.heap args off l' ∧ l'.length = l.length
  | [], l', L, args, off, H, _, _ => by
    simp only [reifies, Option.some.injEq, Prod.mk.injEq] at H; obtain ⟨rfl, rfl⟩ := H
    exact ⟨by simp only [RL], rfl⟩
  | v :: r, l', L, args, off, H, hl, hr => by
    simp only [reifies] at H
    split at H
    · rename_i a b ha hb
      simp only [Option.some.injEq, Prod.mk.injEq] at H; obtain ⟨rfl, rfl⟩ := H
      simp only [RL] at hr
      obtain ⟨⟨x, hx, h1⟩, h2⟩ := hr
      have g := reify_ok (v' := a.1) (L := a.2) S ha (hl.sub fun o ho => List.mem_append_left _ ho) h1
      obtain ⟨g1, g2⟩ := reifies_ok (l' := b.1) (L := b.2) S hb (hl.sub fun o ho => List.mem_append_right _ ho) h2
      exact ⟨by simp only [RL]; exact ⟨⟨x, hx, g⟩, g1⟩, by simp [g2]⟩
    · cases H
end
end
section
open Go
structure Ret (C : Ctx) (γ : Gh) (w : World) (v : Value) (r : PV) (m : Nat) (out : List Obj') : Prop where
  rv : RV C.fid γ w.heap v r
  len : m ≤ out.length
  obj : ∀ k x, out[k]? = some x → ∃ i, γ.mu k = some i ∧ ORel C.fid γ w.heap x i
  dom : ∀ k i, γ.mu k = some i → k < out.length
  inj : ∀ o o' i i' b, γ.mu o = some i → γ.mu o' = some i' → i.blk = some b → i'.blk = some b → o = o'
  unf : ∀ k x i b, out[k]? = some x → x.fro = false → γ.mu k = some i → i.blk = some b → ¬ γ.im b
  own : ∀ o i b, γ.mu o = some i → i.blk = some b → C.A b ∨ C.w0.heap.size ≤ b
  lt : ∀ b, γ.im b → b < w.heap.size
  chg : Chg (fun b => C.A b ∨ C.w0.heap.size ≤ b) C.w0 w
  gn : γ.gn = C.gn
  kept : ∀ k i, k < m → C.g0.mu k = some i → ∃ i', γ.mu k = some i' ∧ (i' = i ∨ i.ver < i'.ver)
  imk : ∀ b, C.g0.im b → γ.im b ∧ w.heap[b]? = C.w0.heap[b]?
  imn : ∀ b, γ.im b → C.g0.im b ∨ (C.A b ∨ C.w0.heap.size ≤ b)
  place : ∀ k i b, γ.mu k = some i → i.blk = some b → (k < m ∧ ∃ j, C.g0.mu k = some j ∧ j.blk = some b) ∨ C.N b
def Bodied (P : Program) (f : FuncId) : Prop := ∃ fn, P.funcs[f]? = some fn ∧ fn.body.isNone = false ∧ (fn.name == "runtime.NumGoroutine") = false
def Sound (P : Program) (fid : Nat → Nat) (glob : Nat → Option (List PV)) (Φ : Sem') : Prop :=
  ∀ (f0 : FuncId) (as : List PV) (os : List Obj') (r : PV) (out : List Obj'), Φ (fid f0) as os = some (r, out) → os.length ≤ out.length →
    ∀ (C : Ctx) (args : Array Value), C.fid = fid → C.glob = glob → args.size = as.length → os.length ≤ 64 → (∀ k, C.kp k ↔ k < 64) → St C C.g0 C.w0 args (zipN 0 as) (zipN 0 os) →
      Calls P f0 args C.w0 fun e w' => ∃ v γ', e = .returned v ∧ Ret C γ' w' v r os.length out ∧ Bodied P f0
theorem getS_zip : ∀ (l : List PV) (k t : Nat), getS (zipN k l) t = if k ≤ t then l.getD (t - k) .un else .un
  | [], k, t => by simp [zipN, getS]
  | v :: r, k, t => by
    simp only [zipN, getS]
    by_cases h : k = t
    · subst h; simp
    · rw [if_neg h, getS_zip r (k + 1) t]
      by_cases h2 : k ≤ t
      · rw [if_pos (by omega), if_pos h2, show t - k = (t - (k + 1)) + 1 by omega]; simp
      · rw [if_neg (by omega), if_neg h2]
theorem getO_zip : ∀ (l : List Obj') (k t : Nat), getO (zipN k l) t = if k ≤ t then l[t - k]? else none
  | [], k, t => by simp [zipN, getO]
  | v :: r, k, t => by
    simp only [zipN, getO]
    by_cases h : k = t
    · subst h; simp
    · rw [if_neg h, getO_zip r (k + 1) t]
      by_cases h2 : k ≤ t
      · rw [if_pos (by omega), if_pos h2, show t - k = (t - (k + 1)) + 1 by omega]; simp
      · rw [if_neg (by omega), if_neg h2]
theorem reach_ok (ob : OB) : ∀ (k : Nat) (todo acc ids : List Nat), reach ob k todo acc = some ids → acc.Nodup → (∀ o ∈ acc, ∃ x, getO ob o = some x ∧ ∀ o' ∈ refsO x, o' ∈ acc ∨ o' ∈ todo) →
    ids.Nodup ∧ (∀ o ∈ acc, o ∈ ids) ∧ (∀ o ∈ todo, o ∈ ids) ∧ ∀ o ∈ ids, ∃ x, getO ob o = some x ∧ ∀ o' ∈ refsO x, o' ∈ ids
  | k, [], acc, ids, H, hn, hc => by
    have e : acc = ids := by cases k <;> simpa only [reach, Option.some.injEq] using H
    subst e
    refine ⟨hn, fun o h => h, (fun o h => by cases h), fun o ho => ?_⟩
    obtain ⟨x, hx, h⟩ := hc o ho
    exact ⟨x, hx, fun o' ho' => (h o' ho').resolve_right (by simp)⟩
  | 0, _ :: _, _, _, H, _, _ => by simp [reach] at H
  | k + 1, o :: todo, acc, ids, H, hn, hc => by
    simp only [reach] at H
    split at H
    · rename_i hin
      have hin : o ∈ acc := by simpa using hin
      obtain ⟨h1, h2, h3, h4⟩ := reach_ok ob k todo acc ids H hn (fun p hp => by
        obtain ⟨x, hx, h⟩ := hc p hp
        exact ⟨x, hx, fun o' ho' => by
          rcases h o' ho' with h | h
          · exact .inl h
          · rcases List.mem_cons.1 h with rfl | h
            · exact .inl hin
            · exact .inr h⟩)
      exact ⟨h1, h2, fun p hp => by
        rcases List.mem_cons.1 hp with rfl | hp
        · exact h2 _ hin
        · exact h3 p hp, h4⟩
    · rename_i hin
      have hin : o ∉ acc := by simpa using hin
      split at H
      · rename_i x hx
        obtain ⟨h1, h2, h3, h4⟩ := reach_ok ob k (todo ++ refsO x) (acc ++ [o]) ids H (by
          rw [List.nodup_append]; exact ⟨hn, by simp, fun a ha b hb => by simp at hb; subst hb; intro e; subst e; exact hin ha⟩) (fun p hp => by
          rcases List.mem_append.1 hp with hp | hp
          · obtain ⟨y, hy, h⟩ := hc p hp
            refine ⟨y, hy, fun o' ho' => ?_⟩
            rcases h o' ho' with h | h
            · exact .inl (List.mem_append_left _ h)
            · rcases List.mem_cons.1 h with rfl | h
              · exact .inl (by simp)
              · exact .inr (List.mem_append_left _ h)
          · simp at hp; subst hp
            exact ⟨x, hx, fun o' ho' => .inr (List.mem_append_right _ ho')⟩)
        exact ⟨h1, fun p hp => h2 p (List.mem_append_left _ hp), fun p hp => by
          rcases List.mem_cons.1 hp with rfl | hp
          · exact h2 _ (by simp)
          · exact h3 p (List.mem_append_left _ hp), h4⟩
      · cases H
theorem reach_len (ob : OB) : ∀ (k : Nat) (todo acc ids : List Nat), reach ob k todo acc = some ids → ids.length ≤ acc.length + k
  | k, [], acc, ids, H => by
    have e : acc = ids := by cases k <;> simpa only [reach, Option.some.injEq] using H
    subst e; omega
  | 0, _ :: _, _, _, H => by simp [reach] at H
  | k + 1, o :: todo, acc, ids, H => by
    simp only [reach] at H
    split at H
    · have := reach_len ob k todo acc ids H; omega
    · split at H
      · have := reach_len ob k _ _ ids H; simp at this; omega
      · cases H
theorem length_renEls (f : Nat → Nat) : ∀ l, (renEls f l).length = l.length
  | [] => rfl
  | x :: r => by simp only [renEls, List.length_cons, length_renEls f r]
theorem getOs_ok (ob : OB) : ∀ (ids : List Nat) (os : List Obj'), getOs ob ids = some os → os.length = ids.length ∧ ∀ (k o : Nat), ids[k]? = some o → ∃ x, os[k]? = some x ∧ getO ob o = some x
  | [], os, H => by simp only [getOs, Option.some.injEq] at H; subst H; exact ⟨rfl, fun k o h => by simp at h⟩
  | o :: r, os, H => by
    simp only [getOs] at H
    split at H
    · rename_i x y hx hy
      injection H with H; subst H
      obtain ⟨h1, h2⟩ := getOs_ok ob r y hy
      refine ⟨by simp [h1], fun k p hk => ?_⟩
      rcases k with _ | k
      · simp at hk; subst hk; exact ⟨x, rfl, hx⟩
      · simpa using h2 k p (by simpa using hk)
    · cases H
theorem nth_idx : ∀ (l : List Nat) (o : Nat), o ∈ l → nth l (idx l o) = o ∧ idx l o < l.length
  | [], _, h => by cases h
  | x :: r, o, h => by
    simp only [idx]
    by_cases e : x = o
    · rw [if_pos e]; exact ⟨e, by simp⟩
    · rw [if_neg e]
      have h := (List.mem_cons.1 h).resolve_left (fun h => e h.symm)
      obtain ⟨h1, h2⟩ := nth_idx r o h
      exact ⟨h1, by simp; omega⟩
theorem nth_get : ∀ (l : List Nat) (k : Nat), k < l.length → l[k]? = some (nth l k)
  | [], _, h => by simp at h
  | x :: r, 0, _ => rfl
  | x :: r, k + 1, h => by simp only [List.getElem?_cons_succ, nth]; exact nth_get r k (by simpa using h)
theorem idx_nth : ∀ (l : List Nat) (k : Nat), l.Nodup → k < l.length → idx l (nth l k) = k
  | [], _, _, h => by simp at h
  | x :: r, 0, _, _ => by simp [nth, idx]
  | x :: r, k + 1, hn, h => by
    have hk : k < r.length := by simpa using h
    have hm : nth r k ∈ r := List.mem_of_getElem? (nth_get r k hk)
    have hne : ¬ (x = nth r k) := fun e => (List.nodup_cons.1 hn).1 (e ▸ hm)
    show (if x = nth r k then 0 else idx r (nth r k) + 1) = k + 1
    rw [if_neg hne, idx_nth r k (List.nodup_cons.1 hn).2 hk]
section
variable {C : Ctx} {γ : Gh} {w : World} {act : Act} {sl : SL} {ob : OB}
def blkOf (γ : Gh) (L : List Nat) (b : Nat) : Prop := ∃ o i, o ∈ L ∧ γ.mu o = some i ∧ i.blk = some b
def Gh.lend (γ : Gh) (w : World) (bor ids : List Nat) : Gh :=
  { mu := γ.mu, im := fun b => γ.im b ∨ blkOf γ bor b, gn := fun b => (γ.im b ∧ γ.gn b) ∨ blkOf γ ids b ∨ w.heap.size ≤ b }
def Gh.ren (γ : Gh) (ids : List Nat) : Gh := { γ with mu := fun k => if k < ids.length then γ.mu (nth ids k) else none }
def Ctx.enter (C : Ctx) (γ : Gh) (w : World) (bor ids : List Nat) : Ctx :=
  { fid := C.fid, glob := C.glob, w0 := w, A := blkOf γ ids, gn := (γ.lend w bor ids).gn, g0 := (γ.lend w bor ids).ren ids, kp := fun k => k < 64, N := fun b => w.heap.size ≤ b }
theorem lend_lent (γ : Gh) (w : World) (bor ids : List Nat) : Lent γ (γ.lend w bor ids) bor :=
  ⟨fun _ _ h => h, fun _ _ h => ⟨.inl h.1, fun e => .inl ⟨h.1, h.2 e⟩⟩, fun o i _ ho hi hb => .inr ⟨o, i, ho, hi, hb⟩⟩
theorem getD_RL {fid : Nat → Nat} {γ : Gh} {h : Array Obj} {args : Array Value} {as : List PV} (H : RL fid γ h args 0 as) (hs : args.size = as.length) (t : Nat) : RV fid γ h (args.getD t undef) (getS (zipN 0 as) t) := by
  rw [getS_zip, if_pos (Nat.zero_le _), Nat.sub_zero]
  by_cases ht : t < as.length
  · have e : as[t]? = some as[t] := List.getElem?_eq_getElem ht
    obtain ⟨x, hx, hv⟩ := RL_get t _ H e
    rw [Nat.zero_add] at hx
    have h1 : args.getD t undef = x := by simp [hx]
    have h2 : as.getD t .un = as[t] := by simp [ht]
    rw [h1, h2]; exact hv
  · have h2 : as.getD t .un = .un := by simp [List.getElem?_eq_none (Nat.le_of_not_lt ht)]
    rw [h2]; exact RV_un
theorem enter_ok (S : St C γ w act.tmps sl ob) {args : Array Value} {as : List PV} {bor ids : List Nat} {os : List Obj'} (hR : RL C.fid (γ.lend w bor ids) w.heap args 0 as) (hs : args.size = as.length)
    {todo : List Nat} (hsub : ∀ o ∈ refsL as, o ∈ todo) (hre : reach ob 20 todo [] = some ids) (hdj : ids.any (bor.contains ·) = false) (hos : getOs ob ids = some os) :
    St (C.enter γ w bor ids) (C.enter γ w bor ids).g0 (C.enter γ w bor ids).w0 args (zipN 0 (renL (idx ids) as)) (zipN 0 (os.map (renO (idx ids)))) := by
  obtain ⟨hnd, _, hin, hcl⟩ := reach_ok ob 20 _ _ _ hre (by simp) (fun o h => by cases h)
  obtain ⟨hol, hog⟩ := getOs_ok ob ids os hos
  have hdj' : ∀ o, o ∈ ids → o ∉ bor := by
    intro o ho hb
    have := List.any_eq_false.1 hdj o ho
    simp at this; exact this hb
  have hq : ∀ g b, γ.q g b → (γ.lend w bor ids).q g b := (lend_lent γ w bor ids).q
  have mv : ∀ {S'}, (∀ o ∈ S', o ∈ ids) → Mv (γ.lend w bor ids) ((γ.lend w bor ids).ren ids) w.heap w.heap S' (idx ids) := by
    intro S' hS
    refine ⟨fun o ho i hi => ⟨i, ?_, .inl rfl⟩, fun g b h => ⟨h, rfl⟩⟩
    obtain ⟨h1, h2⟩ := nth_idx ids o (hS o ho)
    simp only [Gh.ren, h2, if_true, h1]; exact hi
  have hmu : ∀ k i, ((γ.lend w bor ids).ren ids).mu k = some i → k < ids.length ∧ γ.mu (nth ids k) = some i := by
    intro k i h
    simp only [Gh.ren] at h
    split at h
    · rename_i hk; exact ⟨hk, h⟩
    · cases h
  have hobj : ∀ k x, getO (zipN 0 (os.map (renO (idx ids)))) k = some x → ∃ X, k < ids.length ∧ getO ob (nth ids k) = some X ∧ x = renO (idx ids) X := by
    intro k x h
    rw [getO_zip, if_pos (Nat.zero_le _), Nat.sub_zero, List.getElem?_map] at h
    obtain ⟨X, hX, rfl⟩ := Option.map_eq_some_iff.1 h
    have hk : k < ids.length := by rw [← hol]; exact (List.getElem?_eq_some_iff.1 hX).1
    obtain ⟨Y, hY, hg⟩ := hog k _ (nth_get ids k hk)
    rw [hX] at hY; injection hY with hY; subst hY
    exact ⟨X, hk, hg, rfl⟩
  constructor
  · intro t
    have h1 : RL C.fid ((γ.lend w bor ids).ren ids) w.heap args 0 (renL (idx ids) as) := RL_map as args 0 (mv fun o ho => hin o (hsub o ho)) hR
    exact getD_RL h1 (by rw [length_renL]; exact hs) t
  · intro k x hx
    obtain ⟨X, hk, hX, rfl⟩ := hobj k x hx
    obtain ⟨i, hi, h1, h2, h3, h4⟩ := S.obj _ X hX
    refine ⟨i, by simp only [Ctx.enter, Gh.ren, hk, if_true]; exact hi, ?_⟩
    obtain ⟨Y, hY, hcl'⟩ := hcl _ (List.mem_of_getElem? (nth_get ids k hk))
    rw [hX] at hY; injection hY with hY; subst hY
    have hlend : ORel C.fid (γ.lend w bor ids) w.heap X i := ORel_mono ((lend_lent γ w bor ids).mv w.heap _) (fun _ _ => rfl) ⟨h1, h2, h3, h4⟩
    show ORel C.fid ((γ.lend w bor ids).ren ids) w.heap (renO (idx ids) X) i
    unfold renO
    split
    · rename_i hp
      obtain ⟨h1, h2, h3, h4⟩ := hlend
      refine ⟨h1, h2, h3, ?_⟩
      cases hbk : i.blk with
      | none => simpa only [hbk] using h4
      | some b =>
        simp only [hbk] at h4 ⊢
        obtain ⟨g1, cs, g2, g3, g4⟩ := h4
        refine ⟨g1, cs, g2, g3, ?_⟩
        rcases g4 with ⟨g4, g5⟩ | ⟨g4, _⟩
        · exact .inl ⟨g4, g5⟩
        · rw [hp] at g4; cases g4
    · rename_i hp
      obtain ⟨h1, h2, h3, h4⟩ := hlend
      refine ⟨h1, h2, by rw [length_renEls]; exact h3, ?_⟩
      cases hbk : i.blk with
      | none => simpa only [hbk] using h4
      | some b =>
        simp only [hbk] at h4 ⊢
        obtain ⟨g1, cs, g2, g3, g4⟩ := h4
        refine ⟨g1, cs, g2, g3, ?_⟩
        rcases g4 with ⟨g4, _⟩ | ⟨g4, g5⟩
        · exact absurd g4 hp
        · refine .inr ⟨g4, REls_map _ _ _ _ (mv ?_) g5⟩
          intro o ho
          refine hcl' o ?_
          unfold refsO; rw [if_neg hp]; exact ho
  · intro k i hi
    obtain ⟨hk, _⟩ := hmu k i hi
    obtain ⟨x, hx, _⟩ := hog k _ (nth_get ids k hk)
    exact ⟨renO (idx ids) x, by rw [getO_zip, if_pos (Nat.zero_le _), Nat.sub_zero, List.getElem?_map, hx]; rfl⟩
  · intro k k' i i' b h1 h2 h3 h4
    obtain ⟨hk, g1⟩ := hmu k i h1
    obtain ⟨hk', g2⟩ := hmu k' i' h2
    have := S.inj _ _ i i' b g1 g2 h3 h4
    have := congrArg (idx ids) this
    rwa [idx_nth ids k hnd hk, idx_nth ids k' hnd hk'] at this
  · intro k x i b hx hf hi hb him
    obtain ⟨X, hk, hX, rfl⟩ := hobj k x hx
    obtain ⟨_, g1⟩ := hmu k i hi
    have hf' : X.fro = false := by unfold renO at hf; split at hf <;> exact hf
    rcases him with him | ⟨o, j, ho, hj, hjb⟩
    · exact S.unf _ X i b hX hf' g1 hb him
    · have := S.inj _ _ i j b g1 hj hb hjb
      exact hdj' _ (List.mem_of_getElem? (nth_get ids k hk)) (this ▸ ho)
  · intro k i b hi hb
    obtain ⟨hk, g1⟩ := hmu k i hi
    exact .inl ⟨_, i, List.mem_of_getElem? (nth_get ids k hk), g1, hb⟩
  · intro b hb
    rcases hb with hb | ⟨o, j, _, hj, hjb⟩
    · exact S.lt b hb
    · exact blk_lt S hj hjb
  · intro g xs hg
    obtain ⟨h1, cs, h2, h3⟩ := S.glob g xs hg
    exact ⟨hq true g h1, cs, h2, PCells_mono (fun b hb => ⟨hq true b hb, rfl⟩) _ _ _ h3⟩
  · exact Chg.refl _ _
  · rfl
  · intro b hb
    exact .inr hb
  · intro k i _ hi
    exact ⟨i, hi, .inl rfl⟩
  · intro b hb
    exact ⟨hb, rfl⟩
  · intro b hb
    exact .inl hb
  · intro k i b hi hb
    obtain ⟨hk', _⟩ := hmu k i hi
    have := reach_len ob 20 _ _ _ hre
    simp at this
    exact .inl ⟨by omega, i, hi, hb⟩
  · exact fun b hb => hb
end
end
end Go.Proofs.YtmhpkdcnhgmblaaDoor
