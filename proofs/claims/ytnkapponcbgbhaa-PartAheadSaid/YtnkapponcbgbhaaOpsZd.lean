import Derived.Test.YtnkapponcbgbhaaOpsZc
import Derived.Test.YtnkapponcbgbhaaOpsU
set_option linter.all false
namespace Go.Proofs.Ytnkapponcbgbhaa
section
open Go
section
variable {P : Program} {E : Env} {C : Ctx} {γ : Gh} {w : World} {a : Act} {sl : SL} {ob : OB}
theorem mkS_ok (S : St C γ w a.tmps sl ob) {t e : TypeId} {x : Value} {xv : PV} {r : Up} (ht : P.underlying t = some (.slice e)) (he : P.underlying e = some (.int .u8)) (hx : RV C.fid γ w.heap x xv) (H : mkS ob xv = some r) :
    ∃ (v : Value) (w' : World) (γ' : Gh), (convert t t x).run P w = .ok v w' ∧ RV C.fid γ' w'.heap v r.1 ∧ St C γ' w' a.tmps sl (r.2 ++ ob) := by
  unfold mkS at H
  split at H
  · rename_i o ver lo n
    cases hY : getO ob o with
    | none => simp [hY, mkX] at H
    | some Y =>
      simp only [hY, mkX] at H
      split at H
      · rename_i hc
        obtain ⟨hver, hpu, hfro, hlo, hpos, hn⟩ := hc
        injection H with H; subst H; subst hlo
        obtain ⟨I, hI, hv, base, c, rfl, hh⟩ := RV_sl.1 hx
        obtain ⟨I', hI', q1, q2, q3, q4⟩ := S.obj o Y hY
        rw [hI] at hI'; injection hI' with hI'; subst hI'
        obtain ⟨k1, k2, k3⟩ := hh (by omega)
        obtain ⟨b, hbk, rfl⟩ := k3 (by omega)
        simp only [hbk] at q4
        obtain ⟨p1, cs, pown, p3, p4⟩ := q4
        obtain ⟨hmp, tt, fr, p2, p2'⟩ := pown.cells (by first | exact .inr (by assumption) | exact .inl (fun e0 => by simp_all) | exact .inl (fun e0 => by rw [e0] at *; simp at *; omega))
        have p4 : PEls w.heap (γ.q Y.g) cs I.w 0 Y.els := by
          rcases p4 with ⟨_, p4⟩ | ⟨hp, _⟩
          · exact p4
          · rw [hpu] at hp; cases hp
        have hsh : w.shape? b = some (tt, cs.size) := by unfold World.shape?; rw [p2]
        obtain ⟨f1, f2⟩ := fr
        let fr' : Nat × Nat := if f1 == f2 then (cs.size, cs.size + 1) else (min f1 cs.size, max f2 (cs.size + 1))
        let w' : World := w.freeze { block := b, off := cs.size } 1
        have hb' : w'.heap[b]? = some (.cells cs tt fr') := by
          show (w.heap.modify b _)[b]? = _
          rw [Array.getElem?_modify, if_pos rfl, p2]; rfl
        have hfr : fr'.1 = fr'.2 ∨ cs.size ≤ fr'.1 := by
          simp only [fr']
          split
          · exact .inr (Nat.le_refl _)
          · rename_i hne
            simp only at p2'
            rcases p2' with h | h
            · exact absurd (by simpa using h) hne
            · exact .inr (by simp; omega)
        have hwr : Wr w w' b := ⟨rfl, rfl, rfl, by simp [w', World.freeze], fun k hk => by
          show (w.heap.modify b _)[k]? = _
          rw [Array.getElem?_modify, if_neg (Ne.symm hk)]⟩
        have hrun : (convert t t (.slice (some ⟨b, 0 * I.w, none⟩) n c)).run P w = .ok (.slice (some ⟨b, 0 * I.w, none⟩) n c) w' := by
          simp [convert, run_underlying' ht, run_underlying' he, markStringish, hsh, w']
        refine ⟨_, w', _, hrun, RV_sl.2 ⟨I, Gh.set_mu .., hv, _, c, rfl, fun _ => ⟨k1, k2, fun _ => ⟨b, hbk, rfl⟩⟩⟩, S.rep (i' := I) hY hfro hI (.inl rfl) (fun b' hb2 => hwr.other b' (fun e => S.unf o Y I b hY hfro hI hbk (e ▸ hb2))) (fun o' j b2 ho hj hb2 => hwr.other b2 (fun e => ho (by subst e; exact S.inj o' o j I b2 hj hI hb2 hbk))) (hwr.chg (S.own o I b hI hbk)) q1 q2 q3 hpu ?_⟩
        simp only [hbk]
        exact ⟨p1, .inl trivial, cs, ⟨tt, fr', hb', hfr⟩, p3, p4⟩
      · cases H
  · cases H
variable (hE : E.fid = C.fid) (hG : E.glob = C.glob) (S : St C γ w a.tmps sl ob)
include hE hG S
theorem opO_ok {Φ : Sem'} {o : Oper} {d : Nat} {r : Up} (hcall : ∀ f args tys, o.op ≠ .call { callee := .value f, args := args, argTypes := tys }) (H : opO P E Φ sl ob d o.op = some (some r)) :
    OK P C a.eval w a.tmps sl ob o r := by
  have wrap : ∀ {s : Sem Value}, (∃ (x : Value) (w' : World) (γ' : Gh), s.run P w = .ok x w' ∧ RV C.fid γ' w'.heap x r.1 ∧ St C γ' w' a.tmps sl (r.2 ++ ob)) → execOp a.eval o = (do pure (.value (← s))) → OK P C a.eval w a.tmps sl ob o r := by
    rintro s ⟨x, w', γ', h1, h2, h3⟩ he
    exact ⟨.value x, x, w', γ', by rw [he]; simp [h1], .inl rfl, h2, h3⟩
  have ev := ev_ok hE hG S
  unfold opO at H
  split at H
  · 
    rename_i t ho
    split at H
    · rename_i z hz
      injection H with H
      exact wrap (alloc_ok S hz H) (by simp only [execOp, ho])
    · cases H
  · 
    rename_i t x ho
    injection H with H
    obtain ⟨γ', h1, h2, h3⟩ := bx_ok (P := P) (t := t) S (ev x) H
    exact wrap ⟨_, _, γ', h1, h2, h3⟩ (by simp only [execOp, ho])
  · 
    rename_i t n parts ho
    split at H
    · rename_i e hu
      split at H
      · rename_i hc
        simp only [Bool.and_eq_true, beq_iff_eq, decide_eq_true_eq] at hc
        split at H
        · rename_i z hz
          injection H with H
          split at H
          · exact wrap (bldP_ok hE hG S hu hz hc.1.1.1 hc.2 hc.1.1.2 hc.1.2 H) (by simp only [execOp, ho])
          · exact wrap (bldS_ok hE hG S hu hz hc.1.1.1 hc.2 hc.1.1.2 hc.1.2 H) (by simp only [execOp, ho])
        · cases H
      · cases H
    · cases H
  · 
    rename_i t x v ho
    split at H
    · rename_i hk
      injection H with H
      obtain ⟨w', γ', h1, h2, h3⟩ := st_ok S (ev x) (ev v) hk H
      refine ⟨.skip, undef, w', γ', by simp [execOp, ho, h1], .inr ⟨rfl, rfl⟩, ?_, h3⟩
      rw [h2]; exact RV_tup.2 ⟨#[], rfl, rfl, by simp only [RL]⟩
    · cases H
  · 
    rename_i t l c ho
    split at H
    · rename_i e l' c' hu
      split at H
      · rename_i hlc
        subst hlc
        split at H
        · rename_i z hz
          injection H with H
          exact wrap (mks_ok S hu hz (ev (.tmp l')) H) (by simp only [execOp, ho])
        · cases H
      · cases H
    · rename_i e n m hu
      split at H
      · rename_i hlc
        subst hlc
        split at H
        · rename_i z hz
          injection H with H
          exact wrap (mks_ok S hu hz (ev (.const (.int .i64 n))) H) (by simp only [execOp, ho])
        · cases H
      · cases H
    · cases H
  · 
    rename_i t x lo hi mx ho
    split at H
    · cases H
    · rename_i hmx
      have hmx : (mx.isSome && hi.isNone) = false := Bool.eq_false_iff.2 hmx
      split at H
      · rename_i n e hu
        split at H
        · rename_i h1
          injection H with H
          obtain ⟨y, γ', g1, g2, g3⟩ := slcA_ok hE hG S hmx hu h1 H
          exact wrap ⟨y, w, γ', g1, g2, g3⟩ (by simp only [execOp, ho])
        · cases H
      · rename_i e hu
        split at H
        · rename_i hk
          injection H with H
          obtain ⟨y, γ', g1, g2, g3⟩ := slc_ok hE hG S hmx hu hk H
          exact wrap ⟨y, w, γ', g1, g2, g3⟩ (by simp only [execOp, ho])
        · cases H
      · rename_i hu
        injection H with H
        obtain ⟨y, γ', g1, g2, g3⟩ := slcS_ok hE hG S hmx hu H
        exact wrap ⟨y, w, γ', g1, g2, g3⟩ (by simp only [execOp, ho])
      · cases H
  · 
    rename_i src dst x ho
    split at H
    · rename_i e hs hd'
      split at H
      · rename_i he
        injection H with H
        exact wrap (s2b_ok S hs hd' (by exact he) (ev x) H) (by simp only [execOp, ho])
      · cases H
    · rename_i e0 e hs hd'
      split at H
      · rename_i hc
        subst hc
        split at H
        · rename_i he
          injection H with H
          exact wrap (mkS_ok S hd' (by exact he) (ev x) H) (by simp only [execOp, ho])
        · cases H
      · cases H
    · cases H
  · 
    rename_i args argTypes ho
    split at H
    · rename_i x y t u h1 h2
      have e0 : argTypes[0]? = some t := by rw [← Array.getElem?_toList, h2]; rfl
      have e1 : argTypes[1]? = some u := by rw [← Array.getElem?_toList, h2]; rfl
      have ea : args = #[x, y] := by rw [← Array.toArray_toList (xs := args), h1]
      split at H
      · rename_i e hu
        split at H
        · rename_i z hz
          split at H
          · rename_i hc
            simp only [Bool.and_eq_true, decide_eq_true_eq] at hc
            obtain ⟨du, hdu⟩ := known_some hc.2
            obtain ⟨i, zv, hi, hzv, hs1, hs2, hby, hcB, hzR⟩ := zeroT_R (fid := C.fid) (γ := γ) (h := w.heap) hz
            have hcell : P.cellsOf e = wds z := by simp [Program.cellsOf, hi, hs2]
            by_cases hptr : ptrE P e = true
            · rw [if_pos hptr] at H
              split at H
              · rename_i hint
                injection H with H
                obtain ⟨k, rfl⟩ : ∃ k, du = .int k := by
                  unfold isInt at hint
                  rw [hdu] at hint
                  cases du <;> first | exact ⟨_, rfl⟩ | simp at hint
                have hy := ev y
                generalize Go.Proofs.Ytnkapponcbgbhaa.ev E sl y = yv at hy H
                cases yv <;> simp only [apzN] at H <;> try (cases H; done)
                rename_i k' m
                split at H
                · rename_i hm
                  obtain ⟨m0, m1⟩ := hm
                  rw [RV_i] at hy
                  obtain ⟨m', rfl⟩ : ∃ m' : Nat, m = m' := ⟨m.toNat, by omega⟩
                  simp only [two32] at m1
                  simp only [Int.toNat_natCast] at H
                  obtain ⟨v, w', γ', g1, g2, g3⟩ := apNE_ok (ty := o.type) (y := .int k' m') S hs1 hc.1 (ev x) (fun _ => apdN_int (at' := argTypes) e0 e1 hu hdu hi hzv hs1 hs2 hby hc.1 hzR (by omega)) H
                  exact ⟨.value v, v, w', γ', by simp [execOp, ho, resolve, invoke, builtin, ea, hy, g1], .inl rfl, g2, g3⟩
                · cases H
              · rename_i hint
                injection H with H
                unfold apN at H
                cases hcn : contN ob (Go.Proofs.Ytnkapponcbgbhaa.ev E sl y) with
                | none => simp [hcn, apNC] at H
                | some q =>
                  simp only [hcn, apNC] at H
                  rw [hcell] at H
                  have hni : ∀ k, du ≠ .int k := fun k e => hint (by simp [isInt, hdu, e])
                  obtain ⟨v, w', γ', g1, g2, g3⟩ := apNE_ok (ty := o.type) S hs1 hc.1 (ev x) (fun hW => apdN_src e0 e1 hu hdu hi hzv hs2 hby hc.1 hni (contN_ok S (ev y) hcn) hW) H
                  exact ⟨.value v, v, w', γ', by simp [execOp, ho, resolve, invoke, builtin, ea, g1], .inl rfl, g2, g3⟩
            rw [if_neg hptr] at H
            split at H
            · rename_i hint
              injection H with H
              obtain ⟨k, rfl⟩ : ∃ k, du = .int k := by
                unfold isInt at hint
                rw [hdu] at hint
                cases du <;> first | exact ⟨_, rfl⟩ | simp at hint
              have hy := ev y
              generalize Go.Proofs.Ytnkapponcbgbhaa.ev E sl y = yv at hy H
              cases yv <;> simp only [apz] at H <;> try (cases H; done)
              rename_i k' m
              split at H
              · rename_i hm
                obtain ⟨m0, m1, m2⟩ := hm
                rw [RV_i] at hy
                obtain ⟨m', rfl⟩ : ∃ m' : Nat, m = m' := ⟨m.toNat, by omega⟩
                simp only [two32] at m1
                simp only [Int.toNat_natCast] at H
                obtain ⟨v, w', γ', g1, g2, g3⟩ := apE_ok (ty := o.type) (y := .int k' m') S hs1 hc.1 (ev x) (fun _ => apd_int (at' := argTypes) e0 e1 hu hdu hi hzv hs1 hs2 hby hc.1 hcB (by omega) m2) H
                exact ⟨.value v, v, w', γ', by simp [execOp, ho, resolve, invoke, builtin, ea, hy, g1], .inl rfl, g2, g3⟩
              · cases H
            · rename_i hint
              injection H with H
              unfold ap at H
              cases hcn : cont ob (Go.Proofs.Ytnkapponcbgbhaa.ev E sl y) with
              | none => simp [hcn, apC] at H
              | some q =>
                simp only [hcn, apC] at H
                rw [hcell] at H
                have hni : ∀ k, du ≠ .int k := fun k e => hint (by simp [isInt, hdu, e])
                obtain ⟨v, w', γ', g1, g2, g3⟩ := apE_ok (ty := o.type) S hs1 hc.1 (ev x) (fun hW => apd_src e0 e1 hu hdu hi hzv hs2 hby hc.1 hni (cont_ok S (ev y) hcn) hW) H
                exact ⟨.value v, v, w', γ', by simp [execOp, ho, resolve, invoke, builtin, ea, g1], .inl rfl, g2, g3⟩
          · cases H
        · cases H
      · cases H
    · cases H
  · 
    rename_i args argTypes ho
    split at H
    · rename_i x y t r' h1 h2
      have e0 : argTypes[0]? = some t := by rw [← Array.getElem?_toList, h2]; rfl
      have ea : args = #[x, y] := by rw [← Array.toArray_toList (xs := args), h1]
      split at H
      · rename_i e hu
        split at H
        · rename_i hc
          simp only [Bool.and_eq_true, decide_eq_true_eq] at hc
          injection H with H
          by_cases hptr : ptrE P e = true
          · rw [if_pos hptr] at H
            unfold cpN at H
            cases hcn : contN ob (Go.Proofs.Ytnkapponcbgbhaa.ev E sl y) with
            | none => simp [hcn, cpNC] at H
            | some q =>
              simp only [hcn, cpNC] at H
              obtain ⟨v, w', γ', g1, g2, g3⟩ := cpNX_ok (ty := o.type) S e0 hu hc.1 hc.2 (ev x) (contN_ok S (ev y) hcn) H
              exact ⟨.value v, v, w', γ', by simp [execOp, ho, resolve, invoke, builtin, ea, g1], .inl rfl, g2, g3⟩
          rw [if_neg hptr] at H
          unfold cpy at H
          cases hcn : cont ob (Go.Proofs.Ytnkapponcbgbhaa.ev E sl y) with
          | none => simp [hcn, cpC] at H
          | some q =>
            simp only [hcn, cpC] at H
            obtain ⟨v, w', γ', g1, g2, g3⟩ := cpX_ok (ty := o.type) S e0 hu hc.1 hc.2 (ev x) (cont_ok S (ev y) hcn) H
            exact ⟨.value v, v, w', γ', by simp [execOp, ho, resolve, invoke, builtin, ea, g1], .inl rfl, g2, g3⟩
        · cases H
      · cases H
    · cases H
  · 
    rename_i t ho
    split at H
    · rename_i k et hmk
      injection H with H
      exact wrap (mkm_ok S H) (by simp only [execOp, ho]; rfl)
    · cases H
  · 
    rename_i t m k v ho
    split at H
    · rename_i kk et hmk
      injection H with H
      obtain ⟨kt, hm, hk⟩ := mapK_some hmk
      obtain ⟨w', γ', h1, h2, h3⟩ := mpu_ok S hm hk (ev m) (ev k) (ev v) H
      refine ⟨.skip, undef, w', γ', by simp [execOp, ho, h1], .inr ⟨rfl, rfl⟩, ?_, h3⟩
      rw [h2]; exact RV_tup.2 ⟨#[], rfl, rfl, by simp only [RL]⟩
    · cases H
  · 
    rename_i t m k v ho
    split at H
    · rename_i kk et hmk
      injection H with H
      obtain ⟨kt, hm, hk⟩ := mapK_some hmk
      obtain ⟨w', γ', h1, h2, h3⟩ := mpu_ok S hm hk (ev m) (ev k) (ev v) H
      refine ⟨.skip, undef, w', γ', by simp [execOp, ho, h1], .inr ⟨rfl, rfl⟩, ?_, h3⟩
      rw [h2]; exact RV_tup.2 ⟨#[], rfl, rfl, by simp only [RL]⟩
    · cases H
  · 
    rename_i args argTypes ho
    split at H
    · rename_i x t h1 h2
      have e0 : argTypes[0]? = some t := by rw [← Array.getElem?_toList, h2]; rfl
      have ea : args = #[x] := by rw [← Array.toArray_toList (xs := args), h1]
      split at H
      · rename_i q hmk
        injection H with H
        obtain ⟨kt, hm, hk⟩ := mapK_some (k := q.1) (et := q.2) hmk
        obtain ⟨v, w', γ', g1, g2, g3⟩ := mpc_ok (ty := o.type) S e0 hm (ev x) H
        exact ⟨.value v, v, w', γ', by simp [execOp, ho, resolve, invoke, builtin, ea, g1], .inl rfl, g2, g3⟩
      · cases H
    · cases H
  · rename_i f args tys ho; exact absurd ho (hcall _ _ _)
  · rename_i f args tys ho; exact absurd ho (hcall _ _ _)
  · cases H
end
end
section
open Go
def Gh.good (γ : Gh) : Gh := { γ with im := fun b => γ.im b ∧ γ.gn b }
section
variable {fid : Nat → Nat} {γ : Gh} {h : Array Obj}
theorem q_good {b : Nat} (H : γ.q true b) : γ.good.q true b ∧ h[b]? = h[b]? := ⟨⟨⟨H.1, H.2 rfl⟩, fun _ => H.2 rfl⟩, rfl⟩
mutual
theorem RAt_good : ∀ (v : PV) (cs : Array Value) (off : Nat), noExt v = true → RAt fid γ h cs off v → RAt fid γ.good h cs off v
  | .b _, _, _, _, H | .i _ _, _, _, _, H | .s _, _, _, _, H | .blob _ _, _, _, _, H | .np, _, _, _, H | .ni, _, _, _, H | .nm, _, _, _, H | .nf, _, _, _, H | .ub, _, _, _, H | .un, _, _, _, H | .e _, _, _, _, H
    => by simpa only [RAt] using H
  | .sl .., _, _, _, H | .bs .., _, _, _, H | .p .., _, _, _, H => by simp only [RAt] at H ⊢; exact H
  | .l g xs, cs, off, hn, H => by
    simp only [noExt] at hn; subst hn
    simp only [RAt] at H ⊢; exact PAt_mono (fun b hb => q_good hb) _ _ _ H
  | .ln g xs, cs, off, hn, H => by
    simp only [noExt] at hn; subst hn
    simp only [RAt] at H ⊢; exact ⟨PAt_mono (fun b hb => q_good hb) _ _ _ H.1, H.2⟩
  | .q g xs bi, cs, off, hn, H => by
    simp only [noExt] at hn; subst hn
    simp only [RAt] at H ⊢
    obtain ⟨b, o, cs', e, hb, hr, H⟩ := H
    exact ⟨b, o, cs', e, (q_good (h := h) hb).1, hr, PCells_mono (fun b hb => q_good hb) _ _ _ H⟩
  | .agg xs, cs, off, hn, H => by
    simp only [noExt] at hn
    simp only [RAt] at H ⊢
    obtain ⟨arr, e, hs, H⟩ := H
    exact ⟨arr, e, hs, RCells_good xs arr 0 hn H⟩
  | .tup vs, cs, off, hn, H => by
    simp only [noExt] at hn
    simp only [RAt] at H ⊢
    obtain ⟨arr, e, hs, H⟩ := H
    exact ⟨arr, e, hs, RL_good vs arr 0 hn H⟩
  | .fn k fs cap, cs, off, hn, H => by
    simp only [noExt, Bool.and_eq_true] at hn
    simp only [RAt] at H ⊢
    obtain ⟨f0, a1, a2, e, ef, H1, H2⟩ := H
    exact ⟨f0, a1, a2, e, ef, ⟨H1.1, RL_good fs a1 0 hn.1 H1.2⟩, H2.1, RL_good cap a2 0 hn.2 H2.2⟩
  | .y _ _ _, cs, off, _, H => by simp only [RAt] at H ⊢; exact H
  | .m _, cs, off, _, H => by simp only [RAt] at H ⊢; exact H
  | .pan _, cs, off, _, H => by simp only [RAt] at H
  | .ifc t v, cs, off, hn, H => by
    simp only [noExt] at hn
    simp only [RAt] at H ⊢
    obtain ⟨x, e, H⟩ := H
    exact ⟨x, e, RAt_good v #[x] 0 hn H⟩
theorem RCells_good : ∀ (l : List PV) (cs : Array Value) (off : Nat), noExts l = true → RCells fid γ h cs off l → RCells fid γ.good h cs off l
  | [], _, _, _, _ => by simp only [RCells]
  | v :: r, cs, off, hn, H => by
    simp only [noExts, Bool.and_eq_true] at hn
    simp only [RCells] at H ⊢
    exact ⟨⟨H.1.1, RAt_good v cs off hn.1 H.1.2⟩, RCells_good r cs _ hn.2 H.2⟩
theorem RL_good : ∀ (l : List PV) (cs : Array Value) (off : Nat), noExts l = true → RL fid γ h cs off l → RL fid γ.good h cs off l
  | [], _, _, _, _ => by simp only [RL]
  | v :: r, cs, off, hn, H => by
    simp only [noExts, Bool.and_eq_true] at hn
    simp only [RL] at H ⊢
    obtain ⟨⟨x, hx, H1⟩, H2⟩ := H
    exact ⟨⟨x, hx, RAt_good v #[x] 0 hn.1 H1⟩, RL_good r cs _ hn.2 H2⟩
end
theorem REls_good : ∀ (l : List (List PV)) (cs : Array Value) (w off : Nat), noExtEls l = true → REls fid γ h cs w off l → REls fid γ.good h cs w off l
  | [], _, _, _, _, _ => by simp only [REls]
  | x :: r, cs, w, off, hn, H => by
    simp only [noExtEls, Bool.and_eq_true] at hn
    simp only [REls] at H ⊢
    exact ⟨H.1, RCells_good x cs off hn.1 H.2.1, REls_good r cs w _ hn.2 H.2.2⟩
theorem ORel_good {x : Obj'} {i : HI} (hn : noExtO x = true) (H : ORel fid γ h x i) : ORel fid γ.good h x i := by
  obtain ⟨h1, h2, h3, h4⟩ := H
  refine ⟨h1, h2, h3, ?_⟩
  cases hbk : i.blk with
  | none => simpa only [hbk] using h4
  | some b =>
    simp only [hbk] at h4 ⊢
    obtain ⟨hw, cs, ho, ht, H⟩ := h4
    refine ⟨hw, cs, ho, ht, ?_⟩
    rcases H with ⟨hp, H⟩ | ⟨hp, H⟩
    · simp only [noExtO, hp, if_true] at hn
      rw [hn] at H ⊢
      exact .inl ⟨hp, PEls_mono (fun b hb => q_good hb) _ _ _ _ H⟩
    · simp only [noExtO, hp, Bool.false_eq_true, if_false] at hn
      exact .inr ⟨hp, REls_good _ _ _ _ hn H⟩
end
structure Lent (γ γ' : Gh) (L : List Nat) : Prop where
  mu : ∀ o i, γ.mu o = some i → γ'.mu o = some i
  q : ∀ g b, γ.q g b → γ'.q g b
  im : ∀ o i b, o ∈ L → γ.mu o = some i → i.blk = some b → γ'.im b
theorem Lent.sub {γ γ' : Gh} {L L' : List Nat} (l : Lent γ γ' L) (h : ∀ o, o ∈ L' → o ∈ L) : Lent γ γ' L' := ⟨l.mu, l.q, fun o i b ho => l.im o i b (h o ho)⟩
theorem Lent.mv {γ γ' : Gh} {L : List Nat} (l : Lent γ γ' L) (h : Array Obj) (S : List Nat) : Mv γ γ' h h S (fun o => o) := ⟨fun o _ i hi => ⟨i, l.mu o i hi, .inl rfl⟩, fun g b hb => ⟨l.q g b hb, rfl⟩⟩
section
variable {C : Ctx} {γ γ' : Gh} {w : World} {act : Act} {sl : SL} {ob : OB}
theorem lend_row (S : St C γ w act.tmps sl ob) {o ver lo n : Nat} {cs : Array Value} {off : Nat} {r : Bool × List (List PV)} (hl : Lent γ γ' [o]) (H : RAt C.fid γ w.heap cs off (.sl o ver lo n)) (hc : contX (getO ob o) ver lo n = some r) :
    RAt C.fid γ' w.heap cs off (.l false r.2) := by
  simp only [RAt] at H
  obtain ⟨i, hi, hv, a, c, e, hh⟩ := H
  have hsl : RV C.fid γ w.heap (.slice a n c) (.sl o ver lo n) := RV_sl.2 ⟨i, hi, hv, a, c, rfl, hh⟩
  obtain ⟨⟨a', c', e', hlc, hS⟩, hlen⟩ := contX_ok S hsl hc
  injection e' with e1 e2 e3; subst e1; subst e3
  simp only [RAt, PAt]
  refine ⟨a, c, by rw [hlen]; exact e, hlc, ?_⟩
  rcases Nat.eq_zero_or_pos n with h0 | hpos
  · exact .inl (List.length_eq_zero_iff.1 (hlen.trans h0))
  refine hS.imp id ?_
  rintro ⟨b, o', w', cs', ea, hrow, hE⟩
  have hbk : i.blk = some b := by
    cases hx : getO ob o with
    | none => simp [hx, contX] at hc
    | some x =>
      rw [hx] at hc
      obtain ⟨i', hi', h1, _⟩ := S.obj o x hx
      rw [hi] at hi'; injection hi' with hi'; subst hi'
      have hver : x.ver = ver := by
        simp only [contX] at hc
        split at hc
        · rename_i h; exact h.2.1
        · cases hc
      obtain ⟨g1, g2, g3⟩ := hh (by omega)
      obtain ⟨b', hb', ea'⟩ := g3 (by omega)
      rw [ea] at ea'; injection ea' with ea'; injection ea' with ea' _; rw [ea']; exact hb'
  exact ⟨b, o', w', cs', ea, ⟨hl.im o i b (by simp) hi hbk, by simp⟩, hrow, PEls_mono (fun b hb => ⟨⟨(hl.q _ b hb).1, by simp⟩, rfl⟩) _ _ _ _ hE⟩
theorem reify0_ok (S : St C γ w act.tmps sl ob) {v v' : PV} {L : List Nat} {cs : Array Value} {off : Nat} (H : reify0 ob v = some (v', L)) (hl : Lent γ γ' L) (hr : RAt C.fid γ w.heap cs off v) :
    RAt C.fid γ' w.heap cs off v' ∧ wd v' = wd v ∧ (cellV v = true → cellV v' = true) := by
  have flatl : ∀ {g : Bool} {xs : List (List PV)}, PAt w.heap (γ.q g) cs off (.l g xs) → RAt C.fid γ' w.heap cs off (.l false xs) := by
    intro g xs h
    simp only [RAt]
    have := PAt_mono (q' := γ'.q false) (h' := w.heap) (fun b hb => ⟨⟨(hl.q g b hb).1, by simp⟩, rfl⟩) _ _ _ h
    simpa only [PAt] using this
  unfold reify0 at H
  split at H
  · simp only [Option.some.injEq, Prod.mk.injEq] at H; obtain ⟨rfl, rfl⟩ := H
    simp only [RAt] at hr
    exact ⟨flatl hr, rfl, fun _ => rfl⟩
  · simp only [Option.some.injEq, Prod.mk.injEq] at H; obtain ⟨rfl, rfl⟩ := H
    simp only [RAt] at hr
    exact ⟨flatl hr.1, rfl, fun _ => rfl⟩
  · simp only [Option.some.injEq, Prod.mk.injEq] at H; obtain ⟨rfl, rfl⟩ := H
    simp only [RAt] at hr
    obtain ⟨a, e, _⟩ := hr
    exact ⟨by simp only [RAt, PAt]; exact ⟨a, 0, e, Nat.zero_le _, .inl trivial⟩, rfl, fun _ => rfl⟩
  · rename_i o ver lo n
    cases hc : contX (getO ob o) ver lo n with
    | none => simp [hc] at H
    | some r =>
      simp only [hc, Option.map_some, Option.some.injEq, Prod.mk.injEq] at H; obtain ⟨rfl, rfl⟩ := H
      exact ⟨lend_row S hl hr hc, rfl, fun _ => rfl⟩
  · rename_i o o' lo n
    cases hc : contL ob (.bs o o' lo n) with
    | none => simp [hc] at H
    | some r =>
      simp only [hc, Option.map_some, Option.some.injEq, Prod.mk.injEq] at H; obtain ⟨rfl, rfl⟩ := H
      refine ⟨?_, rfl, fun _ => rfl⟩
      simp only [RAt] at hr
      obtain ⟨i, hi, a, c, e, hn, hh⟩ := hr
      have hbs : RV C.fid γ w.heap (.slice (some a) n c) (.bs o o' lo n) := RV_bs.2 ⟨i, hi, a, c, rfl, hn, hh⟩
      obtain ⟨a', c', e', hlc, hS⟩ := contL_ok S hbs hc
      injection e' with e1 e2 e3; subst e1; subst e3
      simp only [RAt, PAt]
      refine ⟨some a, c, by rw [← e2]; exact e, hlc, ?_⟩
      rcases Nat.eq_zero_or_pos n with h0 | hpos
      · exact .inl (List.length_eq_zero_iff.1 (e2.symm.trans h0))
      refine hS.imp id ?_
      rintro ⟨b, o2, w', cs', ea, hrow, hE⟩
      have hver : i.ver = 0 := by
        cases hr : atO (getO ob o) 0 0 o' with
        | none => simp [contL, hr, blobAt, contB] at hc
        | some cells =>
          cases ho : getO ob o with
          | none => simp [ho, atO] at hr
          | some X =>
            simp only [ho, atO] at hr
            split at hr
            · rename_i hver
              obtain ⟨I', hI', h1, _⟩ := S.obj o X ho
              rw [hi] at hI'; injection hI' with hI'; subst hI'
              omega
            · cases hr
      obtain ⟨b', hb', ea'⟩ := hh hver.symm (by omega)
      injection ea with ea
      have hbb : b' = b := by rw [ea] at ea'; injection ea' with h1 _; exact h1.symm
      subst hbb
      exact ⟨b', o2, w', cs', by rw [ea], ⟨hl.im o i b' (by simp) hi hb', by simp⟩, hrow, PEls_mono (fun b hb => ⟨⟨(hl.q _ b hb).1, by simp⟩, rfl⟩) _ _ _ _ hE⟩
  · simp only [Option.some.injEq, Prod.mk.injEq] at H; obtain ⟨rfl, rfl⟩ := H
    exact ⟨RAt_mono (hl.mv _ _) hr, rfl, id⟩
theorem reifyL_ok (S : St C γ w act.tmps sl ob) : ∀ {l l' : List PV} {L : List Nat} {cs : Array Value} {off : Nat}, reifyL ob l = some (l', L) → Lent γ γ' L → RCells C.fid γ w.heap cs off l → RCells C.fid γ' w.heap cs off l' ∧ wds l' = wds l
  | [], l', L, cs, off, H, _, _ => by
    simp only [reifyL, Option.some.injEq, Prod.mk.injEq] at H; obtain ⟨rfl, rfl⟩ := H
    exact ⟨by simp only [RCells], rfl⟩
  | v :: r, l', L, cs, off, H, hl, hr => by
    simp only [reifyL] at H
    split at H
    · rename_i a b ha hb
      simp only [Option.some.injEq, Prod.mk.injEq] at H; obtain ⟨rfl, rfl⟩ := H
      simp only [RCells] at hr
      obtain ⟨h1, h2, h3⟩ := reify0_ok (v' := a.1) (L := a.2) S ha (hl.sub fun o ho => List.mem_append_left _ ho) hr.1.2
      obtain ⟨g1, g2⟩ := reifyL_ok (l' := b.1) (L := b.2) S hb (hl.sub fun o ho => List.mem_append_right _ ho) hr.2
      exact ⟨by simp only [RCells]; exact ⟨⟨h3 hr.1.1, h1⟩, by rw [h2]; exact g1⟩, by simp only [wds, h2, g2]⟩
    · cases H
theorem reifyEls_ok (S : St C γ w act.tmps sl ob) : ∀ {l l' : List (List PV)} {L : List Nat} {cs : Array Value} {w' off : Nat}, reifyEls ob l = some (l', L) → Lent γ γ' L → REls C.fid γ w.heap cs w' off l → REls C.fid γ' w.heap cs w' off l' ∧ l'.length = l.length
  | [], l', L, cs, w', off, H, _, _ => by
    simp only [reifyEls, Option.some.injEq, Prod.mk.injEq] at H; obtain ⟨rfl, rfl⟩ := H
    exact ⟨by simp only [REls], rfl⟩
  | x :: r, l', L, cs, w', off, H, hl, hr => by
    simp only [reifyEls] at H
    split at H
    · rename_i a b ha hb
      simp only [Option.some.injEq, Prod.mk.injEq] at H; obtain ⟨rfl, rfl⟩ := H
      simp only [REls] at hr
      obtain ⟨h1, h2⟩ := reifyL_ok (l' := a.1) (L := a.2) S ha (hl.sub fun o ho => List.mem_append_left _ ho) hr.2.1
      obtain ⟨g1, g2⟩ := reifyEls_ok (l' := b.1) (L := b.2) S hb (hl.sub fun o ho => List.mem_append_right _ ho) hr.2.2
      exact ⟨by simp only [REls]; exact ⟨by rw [h2]; exact hr.1, h1, g1⟩, by simp [g2]⟩
    · cases H
theorem REls_sub {fid : Nat → Nat} {h : Array Obj} {cs : Array Value} {w' off : Nat} {l : List (List PV)} (H : REls fid γ h cs w' off l) (lo n : Nat) : REls fid γ h cs w' (off + lo * w') ((l.drop lo).take n) :=
  REls_of fun i x hx => by
    have hi : i < n := by
      have := (List.getElem?_eq_some_iff.1 hx).1
      simp only [List.length_take] at this; omega
    rw [List.getElem?_take_of_lt hi, List.getElem?_drop] at hx
    have := REls_get H _ x hx
    rwa [Nat.add_mul, ← Nat.add_assoc] at this
theorem reify_ok (S : St C γ w act.tmps sl ob) {v v' : PV} {L : List Nat} {x : Value} (H : reify ob v = some (v', L)) (hl : Lent γ γ' L) (hr : RV C.fid γ w.heap x v) : RV C.fid γ' w.heap x v' := by
  unfold reify at H
  split at H
  · rename_i cs
    cases hc : reifyL ob cs with
    | none => simp [hc] at H
    | some r =>
      simp only [hc, Option.map_some, Option.some.injEq, Prod.mk.injEq] at H; obtain ⟨rfl, rfl⟩ := H
      obtain ⟨arr, e, hs, hR⟩ := RV_agg.1 hr
      obtain ⟨h1, h2⟩ := reifyL_ok (l' := r.1) (L := r.2) S hc hl hR
      exact RV_agg.2 ⟨arr, e, by rw [h2]; exact hs, h1⟩
  · rename_i o ver lo n
    cases hx : getO ob o with
    | none => simp [hx] at H
    | some X =>
      simp only [hx] at H
      split at H
      · exact (reify0_ok S H hl hr).1
      · rename_i hpu
        split at H
        · rename_i hc
          cases hre : reifyEls ob ((X.els.drop lo).take n) with
          | none => simp [hre] at H
          | some q =>
            simp only [hre, Option.bind_some] at H
            split at H
            · rename_i hp
              simp only [Option.some.injEq, Prod.mk.injEq] at H; obtain ⟨rfl, rfl⟩ := H
              obtain ⟨i, hi, hv, a, c, e, hh⟩ := RV_sl.1 hr
              obtain ⟨i', hi', q1, q2, q3, q4⟩ := S.obj o X hx
              rw [hi] at hi'; injection hi' with hi'; subst hi'
              obtain ⟨k1, k2, k3⟩ := hh (by omega)
              have hlen : ((X.els.drop lo).take n).length = n := by simp; omega
              rw [RV_l]
              rcases Nat.eq_zero_or_pos n with h0 | hpos
              · subst h0
                simp only [List.take_zero, reifyEls, Option.some.injEq] at hre
                rw [← hre]
                exact ⟨a, c, by rw [e]; rfl, Nat.zero_le _, .inl rfl⟩
              · obtain ⟨b, hbk, ea⟩ := k3 (by omega)
                simp only [hbk] at q4
                obtain ⟨p1, cs, p2, p3, p4⟩ := q4
                replace p2 := (p2.cells (.inl fun e0 => by have e1 := congrArg List.length e0; simp only [List.length_nil] at e1; omega)).2
                rcases p4 with ⟨hp', _⟩ | ⟨_, p4⟩
                · exact absurd hp' hpu
                · have hsub := REls_sub p4 lo n
                  rw [Nat.zero_add] at hsub
                  obtain ⟨g1, g2⟩ := reifyEls_ok (l' := q.1) (L := q.2) S hre (hl.sub fun o ho => List.mem_cons_of_mem _ ho) hsub
                  refine ⟨a, c, by rw [e, g2, hlen], by rw [g2, hlen]; exact k2, .inr ⟨b, lo * i.w, i.w, cs, ea, ⟨hl.im o i b (by simp) hi hbk, by simp⟩, p2.row, pure_E hp (by simp) g1⟩⟩
            · cases H
        · cases H
  · exact (reify0_ok S H hl hr).1
theorem reifies_ok (S : St C γ w act.tmps sl ob) : ∀ {l l' : List PV} {L : List Nat} {args : Array Value} {off : Nat}, reifies ob l = some (l', L) → Lent γ γ' L → RL C.fid γ w.heap args off l → RL C.fid γ' w.heap args off l' ∧ l'.length = l.length
  | [], l', L, args, off, H, _, _ => by
    simp only [reifies, Option.some.injEq, Prod.mk.injEq] at H; obtain ⟨rfl, rfl⟩ := H
    exact ⟨by simp only [RL], rfl⟩
  | v :: r, l', L, args, off, H, hl, hr => by
    simp only [reifies] at H
    split at H
    · rename_i a b ha hb
      simp only [Option.some.injEq, Prod.mk.injEq] at H; obtain ⟨rfl, rfl⟩ := H
      simp only [RL] at hr
      obtain ⟨⟨x, hx, h1⟩, h2⟩ := hr
      have g := reify_ok (v' := a.1) (L := a.2) S ha (hl.sub fun o ho => List.mem_append_left _ ho) h1
      obtain ⟨g1, g2⟩ := reifies_ok (l' := b.1) (L := b.2) S hb (hl.sub fun o ho => List.mem_append_right _ ho) h2
      exact ⟨by simp only [RL]; exact ⟨⟨x, hx, g⟩, g1⟩, by simp [g2]⟩
    · cases H
end
end
end Go.Proofs.Ytnkapponcbgbhaa
