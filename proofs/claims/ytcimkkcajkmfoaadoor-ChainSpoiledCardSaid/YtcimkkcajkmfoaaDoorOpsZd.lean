/-
  All operations that make memory or change it, calls aside.
-/
import Derived.Test.YtcimkkcajkmfoaaDoorOpsZc
set_option linter.all false
namespace Go.Proofs.YtcimkkcajkmfoaaDoor
open Go

section
variable {P : Program} {E : Env} {C : Ctx} {γ : Gh} {w : World} {a : Act} {sl : SL} {ob : OB}
/-- A row of bytes is marked as a literal's. -/
theorem mkS_ok (S : St C γ w a.tmps sl ob) {t e : TypeId} {x : Value} {xv : PV} {r : Up} (ht : P.underlying t = some (.slice e)) (he : P.underlying e = some (.int .u8)) (hx : RV C.fid γ w.heap x xv) (H : mkS ob xv = some r) :
    ∃ (v : Value) (w' : World) (γ' : Gh), (convert t t x).run P w = .ok v w' ∧ RV C.fid γ' w'.heap v r.1 ∧ St C γ' w' a.tmps sl (r.2 ++ ob) := by
  unfold mkS at H
  split at H
  · rename_i o ver lo n
    cases hY : getO ob o with
    | none => simp [hY, mkX] at H
    | some Y =>
      simp only [hY, mkX] at H
      split at H
      · rename_i hc
        obtain ⟨hver, hpu, hfro, hlo, hpos, hn⟩ := hc
        injection H with H; subst H; subst hlo
        obtain ⟨I, hI, hv, base, c, rfl, hh⟩ := RV_sl.1 hx
        obtain ⟨I', hI', q1, q2, q3, q4⟩ := S.obj o Y hY
        rw [hI] at hI'; injection hI' with hI'; subst hI'
        obtain ⟨k1, k2, k3⟩ := hh (by omega)
        obtain ⟨b, hbk, rfl⟩ := k3 (by omega)
        simp only [hbk] at q4
        obtain ⟨p1, cs, ⟨tt, fr, p2, p2'⟩, p3, p4⟩ := q4
        have p4 : PEls w.heap (γ.q Y.g) cs I.w 0 Y.els := by
          rcases p4 with ⟨_, p4⟩ | ⟨hp, _⟩
          · exact p4
          · rw [hpu] at hp; cases hp
        have hsh : w.shape? b = some (tt, cs.size) := by unfold World.shape?; rw [p2]
        obtain ⟨f1, f2⟩ := fr
        let fr' : Nat × Nat := if f1 == f2 then (cs.size, cs.size + 1) else (min f1 cs.size, max f2 (cs.size + 1))
        let w' : World := w.freeze { block := b, off := cs.size } 1
        have hb' : w'.heap[b]? = some (.cells cs tt fr') := by
          show (w.heap.modify b _)[b]? = _
          rw [Array.getElem?_modify, if_pos rfl, p2]; rfl
        have hfr : fr'.1 = fr'.2 ∨ cs.size ≤ fr'.1 := by
          simp only [fr']
          split
          · exact .inr (Nat.le_refl _)
          · rename_i hne
            simp only at p2'
            rcases p2' with h | h
            · exact absurd (by simpa using h) hne
            · exact .inr (by simp; omega)
        have hwr : Wr w w' b := ⟨rfl, rfl, rfl, by simp [w', World.freeze], fun k hk => by
          show (w.heap.modify b _)[k]? = _
          rw [Array.getElem?_modify, if_neg (Ne.symm hk)]⟩
        have hrun : (convert t t (.slice (some ⟨b, 0 * I.w, none⟩) n c)).run P w = .ok (.slice (some ⟨b, 0 * I.w, none⟩) n c) w' := by
          simp [convert, run_underlying' ht, run_underlying' he, markStringish, hsh, w']
        refine ⟨_, w', _, hrun, RV_sl.2 ⟨I, Gh.set_mu .., hv, _, c, rfl, fun _ => ⟨k1, k2, fun _ => ⟨b, hbk, rfl⟩⟩⟩, S.rep (i' := I) hY hfro hI (.inl rfl) (fun b' hb2 => hwr.other b' (fun e => S.unf o Y I b hY hfro hI hbk (e ▸ hb2))) (fun o' j b2 ho hj hb2 => hwr.other b2 (fun e => ho (by subst e; exact S.inj o' o j I b2 hj hI hb2 hbk))) (hwr.chg (S.own o I b hI hbk)) q1 q2 q3 hpu ?_⟩
        simp only [hbk]
        exact ⟨p1, .inl trivial, cs, ⟨tt, fr', hb', hfr⟩, p3, p4⟩
      · cases H
  · cases H
variable (hE : E.fid = C.fid) (hG : E.glob = C.glob) (S : St C γ w a.tmps sl ob)
include hE hG S
theorem opO_ok {Φ : Sem'} {o : Oper} {d : Nat} {r : Up} (hcall : ∀ f args tys, o.op ≠ .call { callee := .value f, args := args, argTypes := tys }) (H : opO P E Φ sl ob d o.op = some (some r)) :
    OK P C a.eval w a.tmps sl ob o r := by
  have wrap : ∀ {s : Sem Value}, (∃ (x : Value) (w' : World) (γ' : Gh), s.run P w = .ok x w' ∧ RV C.fid γ' w'.heap x r.1 ∧ St C γ' w' a.tmps sl (r.2 ++ ob)) → execOp a.eval o = (do pure (.value (← s))) → OK P C a.eval w a.tmps sl ob o r := by
    rintro s ⟨x, w', γ', h1, h2, h3⟩ he
    exact ⟨.value x, x, w', γ', by rw [he]; simp [h1], .inl rfl, h2, h3⟩
  have ev := ev_ok hE hG S
  unfold opO at H
  split at H
  · -- alloc
    rename_i t ho
    split at H
    · rename_i z hz
      injection H with H
      exact wrap (alloc_ok S hz H) (by simp only [execOp, ho])
    · cases H
  · -- box
    rename_i t x ho
    injection H with H
    obtain ⟨γ', h1, h2, h3⟩ := bx_ok (P := P) (t := t) S (ev x) H
    exact wrap ⟨_, _, γ', h1, h2, h3⟩ (by simp only [execOp, ho])
  · -- buildSlice
    rename_i t n parts ho
    split at H
    · rename_i e hu
      split at H
      · rename_i hc
        simp only [Bool.and_eq_true, beq_iff_eq, decide_eq_true_eq] at hc
        split at H
        · rename_i z hz
          injection H with H
          exact wrap (bldS_ok hE hG S hu hz hc.1.1.1 hc.2 hc.1.1.2 hc.1.2 H) (by simp only [execOp, ho])
        · cases H
      · cases H
    · cases H
  · -- store
    rename_i t x v ho
    split at H
    · rename_i hk
      injection H with H
      obtain ⟨w', γ', h1, h2, h3⟩ := st_ok S (ev x) (ev v) hk H
      refine ⟨.skip, undef, w', γ', by simp [execOp, ho, h1], .inr ⟨rfl, rfl⟩, ?_, h3⟩
      rw [h2]; exact RV_tup.2 ⟨#[], rfl, rfl, by simp only [RL]⟩
    · cases H
  · -- makeSlice
    rename_i t l c ho
    split at H
    · rename_i e l' c' hu
      split at H
      · rename_i hlc
        subst hlc
        split at H
        · rename_i z hz
          injection H with H
          exact wrap (mks_ok S hu hz (ev (.tmp l')) H) (by simp only [execOp, ho])
        · cases H
      · cases H
    · rename_i e n m hu
      split at H
      · rename_i hlc
        subst hlc
        split at H
        · rename_i z hz
          injection H with H
          exact wrap (mks_ok S hu hz (ev (.const (.int .i64 n))) H) (by simp only [execOp, ho])
        · cases H
      · cases H
    · cases H
  · -- slice
    rename_i t x lo hi mx ho
    split at H
    · cases H
    · rename_i hmx
      have hmx : (mx.isSome && hi.isNone) = false := Bool.eq_false_iff.2 hmx
      split at H
      · rename_i n e hu
        split at H
        · rename_i h1
          injection H with H
          obtain ⟨y, γ', g1, g2, g3⟩ := slcA_ok hE hG S hmx hu h1 H
          exact wrap ⟨y, w, γ', g1, g2, g3⟩ (by simp only [execOp, ho])
        · cases H
      · rename_i e hu
        split at H
        · rename_i hk
          injection H with H
          obtain ⟨y, γ', g1, g2, g3⟩ := slc_ok hE hG S hmx hu hk H
          exact wrap ⟨y, w, γ', g1, g2, g3⟩ (by simp only [execOp, ho])
        · cases H
      · rename_i hu
        injection H with H
        obtain ⟨y, γ', g1, g2, g3⟩ := slcS_ok hE hG S hmx hu H
        exact wrap ⟨y, w, γ', g1, g2, g3⟩ (by simp only [execOp, ho])
      · cases H
  · -- convert
    rename_i src dst x ho
    split at H
    · rename_i e hs hd'
      split at H
      · rename_i he
        injection H with H
        exact wrap (s2b_ok S hs hd' (by exact he) (ev x) H) (by simp only [execOp, ho])
      · cases H
    · rename_i e0 e hs hd'
      split at H
      · rename_i hc
        subst hc
        split at H
        · rename_i he
          injection H with H
          exact wrap (mkS_ok S hd' (by exact he) (ev x) H) (by simp only [execOp, ho])
        · cases H
      · cases H
    · cases H
  · -- append
    rename_i args argTypes ho
    split at H
    · rename_i x y t u h1 h2
      have e0 : argTypes[0]? = some t := by rw [← Array.getElem?_toList, h2]; rfl
      have e1 : argTypes[1]? = some u := by rw [← Array.getElem?_toList, h2]; rfl
      have ea : args = #[x, y] := by rw [← Array.toArray_toList (xs := args), h1]
      split at H
      · rename_i e hu
        split at H
        · rename_i z hz
          split at H
          · rename_i hc
            simp only [Bool.and_eq_true, decide_eq_true_eq] at hc
            obtain ⟨du, hdu⟩ := known_some hc.2
            obtain ⟨i, zv, hi, hzv, hs1, hs2, hby, hcB, _⟩ := zeroT_R (fid := C.fid) (γ := γ) (h := w.heap) hz
            have hcell : P.cellsOf e = wds z := by simp [Program.cellsOf, hi, hs2]
            split at H
            · rename_i hint
              injection H with H
              obtain ⟨k, rfl⟩ : ∃ k, du = .int k := by
                unfold isInt at hint
                rw [hdu] at hint
                cases du <;> first | exact ⟨_, rfl⟩ | simp at hint
              have hy := ev y
              generalize Go.Proofs.YtcimkkcajkmfoaaDoor.ev E sl y = yv at hy H
              cases yv <;> simp only [apz] at H <;> try (cases H; done)
              rename_i k' m
              split at H
              · rename_i hm
                obtain ⟨m0, m1, m2⟩ := hm
                rw [RV_i] at hy
                obtain ⟨m', rfl⟩ : ∃ m' : Nat, m = m' := ⟨m.toNat, by omega⟩
                simp only [two32] at m1
                simp only [Int.toNat_natCast] at H
                obtain ⟨v, w', γ', g1, g2, g3⟩ := apE_ok (ty := o.type) (y := .int k' m') S hs1 hc.1 (ev x) (fun _ => apd_int (at' := argTypes) e0 e1 hu hdu hi hzv hs1 hs2 hby hc.1 hcB (by omega) m2) H
                exact ⟨.value v, v, w', γ', by simp [execOp, ho, resolve, invoke, builtin, ea, hy, g1], .inl rfl, g2, g3⟩
              · cases H
            · rename_i hint
              injection H with H
              unfold ap at H
              cases hcn : cont ob (Go.Proofs.YtcimkkcajkmfoaaDoor.ev E sl y) with
              | none => simp [hcn, apC] at H
              | some q =>
                simp only [hcn, apC] at H
                rw [hcell] at H
                have hni : ∀ k, du ≠ .int k := fun k e => hint (by simp [isInt, hdu, e])
                obtain ⟨v, w', γ', g1, g2, g3⟩ := apE_ok (ty := o.type) S hs1 hc.1 (ev x) (fun hW => apd_src e0 e1 hu hdu hi hzv hs2 hby hc.1 hni (cont_ok S (ev y) hcn) hW) H
                exact ⟨.value v, v, w', γ', by simp [execOp, ho, resolve, invoke, builtin, ea, g1], .inl rfl, g2, g3⟩
          · cases H
        · cases H
      · cases H
    · cases H
  · -- copy
    rename_i args argTypes ho
    split at H
    · rename_i x y t r' h1 h2
      have e0 : argTypes[0]? = some t := by rw [← Array.getElem?_toList, h2]; rfl
      have ea : args = #[x, y] := by rw [← Array.toArray_toList (xs := args), h1]
      split at H
      · rename_i e hu
        split at H
        · rename_i hc
          simp only [Bool.and_eq_true, decide_eq_true_eq] at hc
          injection H with H
          unfold cpy at H
          cases hcn : cont ob (Go.Proofs.YtcimkkcajkmfoaaDoor.ev E sl y) with
          | none => simp [hcn, cpC] at H
          | some q =>
            simp only [hcn, cpC] at H
            obtain ⟨v, w', γ', g1, g2, g3⟩ := cpX_ok (ty := o.type) S e0 hu hc.1 hc.2 (ev x) (cont_ok S (ev y) hcn) H
            exact ⟨.value v, v, w', γ', by simp [execOp, ho, resolve, invoke, builtin, ea, g1], .inl rfl, g2, g3⟩
        · cases H
      · cases H
    · cases H
  · rename_i f args tys ho; exact absurd ho (hcall _ _ _)
  · rename_i f args tys ho; exact absurd ho (hcall _ _ _)
  · cases H
end
end Go.Proofs.YtcimkkcajkmfoaaDoor
