/-
  Slices out of parts; clear; append of zeros.
-/
import Derived.Test.YtcimkkcajkmfoaaDoorOpsZa
set_option linter.all false
namespace Go.Proofs.YtcimkkcajkmfoaaDoor
section
open Go

section
variable {P : Program} {E : Env} {C : Ctx} {γ : Gh} {w : World} {a : Act} {sl : SL} {ob : OB}
theorem cellsL_len : ∀ l, (cellsL l).length = l.length
  | [] => rfl
  | v :: r => by simp only [cellsL, List.length_cons, cellsL_len r]
theorem bldS_ok (hE : E.fid = C.fid) (hG : E.glob = C.glob) (S : St C γ w a.tmps sl ob) {t e : TypeId} {d n : Nat} {z : List PV} {parts : Array (Nat × Operand)} {r : Up} (ht : P.underlying t = some (.slice e)) (hz : zeroT P e = some z)
    (hp : parts.toList.map (·.1) = List.range n) (hn : n < 65536) (hc0 : 0 < P.cellsOf e) (hsz : P.cellsOf e ≤ 256) (H : bldS ob d (P.cellsOf e) (evs E sl (parts.toList.map (·.2))) = some r) :
    ∃ (v : Value) (w' : World) (γ' : Gh), (Instr.buildSlice t n (parts.map fun y => (y.1, a.eval y.2))).run P w = .ok v w' ∧ RV C.fid γ' w'.heap v r.1 ∧ St C γ' w' a.tmps sl (r.2 ++ ob) := by
  obtain ⟨i, zv, hi, hzv, hs1, hs2, hby, _, _⟩ := zeroT_R (fid := C.fid) (γ := γ) (h := w.heap) hz
  have hcell : P.cellsOf e = wds z := by simp [Program.cellsOf, hi, hs2]
  have hpl : (evs E sl (parts.toList.map (·.2))).length = n := by
    rw [evs_len, List.length_map]
    have := congrArg List.length hp
    simpa using this
  -- the model's cells
  have hbig : ¬ (n * wds z > 2 ^ 24) := by
    have := Nat.mul_le_mul (show n ≤ 65536 by omega) (show wds z ≤ 256 by omega)
    omega
  let base : Array Value := (Array.range (n * wds z)).map ((if n * wds z = 0 then #[] else zv.cells)[· % (if n * wds z = 0 then #[] else zv.cells).size]!)
  have hbs : base.size = n * wds z := by simp [base]
  have hparts : (parts.map fun y => (y.1, a.eval y.2)).toList = ((parts.toList.map fun y => a.eval y.2).zipIdx 0).map fun y => (y.2, y.1) := by
    rw [Array.toList_map]
    apply List.ext_getElem?
    intro j
    rw [List.getElem?_map, List.getElem?_map, List.getElem?_zipIdx, List.getElem?_map]
    have h1 := congrArg (fun l => l[j]?) hp
    simp only [List.getElem?_map] at h1
    cases hj : parts.toList[j]? with
    | none => simp
    | some y =>
      rw [hj] at h1
      simp only [Option.map_some] at h1
      have h2 : j < n := by
        have h3 := (List.getElem?_eq_some_iff.1 h1.symm).1
        simpa using h3
      rw [List.getElem?_range h2] at h1
      injection h1 with h1
      simp [h1]
  have hrun : ∀ arr, Instr.fill (fun i => some (i * wds z, wds z)) base (parts.map fun y => (y.1, a.eval y.2)).toList = some arr → (Instr.buildSlice t n (parts.map fun y => (y.1, a.eval y.2))).run P w = .ok (.slice (some ⟨w.heap.size, 0, none⟩) n n) (w.alloc (.cells arr e)) := by
    intro arr harr
    have hsz : (sizeOf e).run P w = .ok (wds z) w := by simp [sizeOf, typeInfo, hi, hs2]
    unfold Instr.buildSlice
    simp only [Sem.run_bind, run_underlying' ht, Result.andThen_ok, hsz]
    rw [if_neg hbig]
    simp only [base] at harr
    rw [Array.toList_map] at harr
    by_cases hm0 : n * wds z = 0
    · simp only [hm0, if_true] at harr
      simp only [hm0, if_true, Sem.run_pure, Result.andThen_ok, Sem.run_bind, pure_bind, Array.toList_map, harr, run_newRow']
    · simp only [if_neg hm0] at harr
      simp only [if_neg hm0, Sem.run_pure, Result.andThen_ok, Sem.run_bind, pure_bind, Array.toList_map, run_zeroValue' hi hzv, harr, run_newRow']
  cases hv : evs E sl (parts.toList.map (·.2)) with
  | nil =>
    rw [hv] at H hpl
    simp only [bldS, Option.some.injEq] at H; subst H
    simp only [List.length_nil] at hpl
    subst hpl
    have hnil : (parts.map fun y => (y.1, a.eval y.2)).toList = [] := by
      have : parts.toList = [] := by simpa using hp
      rw [Array.toList_map, this]; rfl
    have h1 := hrun base (by rw [hnil]; rfl)
    have hq : ∀ g b, γ.q g b → γ.q g b ∧ (w.alloc (.cells base e)).heap[b]? = w.heap[b]? := fun g b h => ⟨h, heap_old w _ b (S.lt b h.1)⟩
    refine ⟨_, _, γ, h1, RV_e.2 ⟨_, rfl, by simp⟩, ?_⟩
    exact (S.change (γ' := γ) (u := []) (fun _ _ => rfl) (fun o i hi => ⟨i, hi, .inl rfl⟩) (fun b h => ⟨h, heap_old w _ b (S.lt b h)⟩) rfl (fun o i b _ hi hb => ⟨heap_old w _ b (blk_lt S hi hb), id⟩) (fun o x h => by simp [getO] at h) (fun b h => by have := S.lt b h; simp; omega) (fun b h => .inl h) (Chg.alloc _ _ _)).2.2
  | cons v0 vr =>
    rw [hv] at H hpl
    simp only [bldS] at H
    split at H
    · rename_i hc
      obtain ⟨hst, hW⟩ := hc
      obtain ⟨hd, rfl⟩ := newX_ok H
      obtain ⟨arr, g1, g2, _, g4⟩ := REls_of_cells (fid := C.fid) (γ := γ) (h := w.heap) (fun i => some (i * wds z, wds z)) (fun _ => rfl) (v0 :: vr) (parts.toList.map fun y => a.eval y.2) 0 base
        (by rw [← hv, evs_len]; simp) (fun j v x hj hx => by
          rw [← hv] at hj
          have hR := evs_ok hE hG S (parts.toList.map (·.2))
          obtain ⟨y, hy, hyv⟩ := RL_get j v hR hj
          simp only [List.map_map, Nat.zero_add, List.getElem?_toArray] at hy
          rw [show (a.eval ∘ fun x : Nat × Operand => x.2) = fun y => a.eval y.2 from rfl, hx] at hy
          injection hy with hy; subst hy; exact hyv) hst (by rw [← hcell]; exact hW) (by rw [Nat.zero_add, hbs, ← hpl]; exact Nat.le_refl _)
      rw [Nat.zero_mul] at g4
      have h1 := hrun arr (by rw [hparts]; exact g1)
      let x' : Obj' := { els := cellsL (v0 :: vr), w := P.cellsOf e, pu := isPureEls (cellsL (v0 :: vr)), g := noExtEls (cellsL (v0 :: vr)) || !isPureEls (cellsL (v0 :: vr)), cap := some (v0 :: vr).length, ver := 0, fro := false }
      have hels : (x'.pu = true ∧ PEls w.heap (γ.q x'.g) arr (wds z) 0 x'.els) ∨ (x'.pu = false ∧ REls C.fid γ w.heap arr (wds z) 0 x'.els) := by
        cases hpu : isPureEls (cellsL (v0 :: vr)) with
        | true => exact .inl ⟨hpu, pure_E hpu (fun h => by simpa [x', hpu] using h) g4⟩
        | false => exact .inr ⟨hpu, g4⟩
      have hcap : ∀ c, x'.cap = some c → n = c := fun c h => by
        have h' : (v0 :: vr).length = c := by simpa [x'] using h
        rw [← h', hpl]
      have := S.new hd (own_new w arr e) (heap_old w _) (Chg.alloc _ w _) (x := x') (i := ⟨0, some w.heap.size, wds z, n⟩) rfl rfl hcap (by simp only [x', cellsL_len]; omega) hcell (by simp only; rw [g2, hbs]; exact Nat.le_refl _) hels
      refine ⟨_, _, _, h1, RV_sl.2 ⟨_, Gh.set_mu .., Nat.le_refl _, some ⟨w.heap.size, 0, none⟩, n, by rw [hpl], fun _ => ⟨by simp, by omega, fun _ => ⟨w.heap.size, rfl, by simp⟩⟩⟩, this.2⟩
    · cases H
theorem purEls_ok {act : Act} (S : St C γ w act.tmps sl ob) : ∀ {l l' : List (List PV)} {g : Bool} {u : OB} {cs : Array Value} {w' off : Nat}, purEls ob l = some (l', g, u) → REls C.fid γ w.heap cs w' off l →
    FrzOf ob u ∧ l'.length = l.length ∧ ∀ u' : OB, (∀ o x, getO u o = some x → ∃ x, getO u' o = some x) → PEls w.heap ((γ.frz u').q g) cs w' off l'
  | [], l', g, u, cs, w', off, H, _ => by
    simp only [purEls, Option.some.injEq, Prod.mk.injEq] at H
    obtain ⟨e1, e2, e3⟩ := H; subst e1; subst e2; subst e3
    exact ⟨FrzOf.nil, rfl, fun _ _ => by simp only [PEls]⟩
  | x :: r, l', g, u, cs, w', off, H, hr => by
    simp only [purEls] at H
    cases h1 : puris ob x with
    | none => simp [h1, purC] at H
    | some p =>
      cases h2 : purEls ob r with
      | none => simp [h1, h2, purC] at H
      | some q =>
        simp only [h1, h2, purC, Option.some.injEq, Prod.mk.injEq] at H
        obtain ⟨e1, e2, e3⟩ := H; subst e1; subst e2; subst e3
        simp only [REls] at hr
        obtain ⟨f1, f2, f3⟩ := puris_ok S (l' := p.1) (g := p.2.1) (u := p.2.2) h1 hr.2.1
        obtain ⟨k1, k2, k3⟩ := purEls_ok S (l' := q.1) (g := q.2.1) (u := q.2.2) h2 hr.2.2
        refine ⟨f1.app k1, by simp only [List.length_cons, k2], fun u' hu' => ?_⟩
        have m1 : ∀ c, (γ.frz u').q p.2.1 c → (γ.frz u').q (p.2.1 && q.2.1) c ∧ w.heap[c]? = w.heap[c]? := fun c h => ⟨⟨h.1, fun e => h.2 (by simp at e; exact e.1)⟩, rfl⟩
        have m2 : ∀ c, (γ.frz u').q q.2.1 c → (γ.frz u').q (p.2.1 && q.2.1) c ∧ w.heap[c]? = w.heap[c]? := fun c h => ⟨⟨h.1, fun e => h.2 (by simp at e; exact e.2)⟩, rfl⟩
        simp only [PEls]
        refine ⟨by rw [f2]; exact hr.1, PCells_mono m1 _ _ _ (f3 u' fun o x h => hu' o x (getO_app_some h)), ?_⟩
        refine PEls_mono m2 _ _ _ _ (k3 u' fun o x h => ?_)
        cases hn : getO p.2.2 o with
        | some y => exact hu' o y (getO_app_some hn)
        | none => exact hu' o x (by rw [getO_app_none hn]; exact h)
theorem bldU_ok {v : Value} {w' : World} {γ' : Gh} {r0 r : Up} (hR : RV C.fid γ' w'.heap v r0.1) (S : St C γ' w' a.tmps sl (r0.2 ++ ob)) (H : bldU ob (some r0) = some r) :
    ∃ γ'' : Gh, RV C.fid γ'' w'.heap v r.1 ∧ St C γ'' w' a.tmps sl (r.2 ++ ob) := by
  unfold bldU at H
  split at H
  · rename_i v0 k x e
    injection e with e
    subst e
    split at H
    · injection H with H; subst H; exact ⟨γ', hR, S⟩
    · rename_i hc
      rw [not_or] at hc
      obtain ⟨hpu, hfro⟩ := hc
      have hpu : x.pu = false := by simpa using hpu
      have hfro : x.fro = false := by simpa using hfro
      cases hq : purEls ((k, x) :: ob) x.els with
      | none => simp [hq, bldQ] at H
      | some q =>
        obtain ⟨l', g, u⟩ := q
        simp only [hq, bldQ] at H
        split at H
        · cases H
        · rename_i hany
          injection H with H; subst H
          have hun : getO u k = none := getO_any (Bool.eq_false_iff.2 hany)
          have S0 : St C γ' w' a.tmps sl ((k, x) :: ob) := S
          have hX : getO ((k, x) :: ob) k = some x := by simp [getO]
          obtain ⟨I, hI, h1, h2, h3, h4⟩ := S0.obj k x hX
          cases hbk : I.blk with
          | none =>
            simp only [hbk] at h4
            have hl : x.els = [] := List.length_eq_zero_iff.1 (by omega)
            rw [hl] at hq
            simp only [purEls, Option.some.injEq, Prod.mk.injEq] at hq
            obtain ⟨e1, e2, e3⟩ := hq; subst e1; subst e2; subst e3
            refine ⟨γ', hR, ?_⟩
            refine { S0 with obj := fun o y hy => ?_, dom := fun o i hi => ?_, unf := fun o y i b hy hf hi hb => ?_ }
            · simp only [List.nil_append, List.cons_append, getO] at hy
              split at hy
              · rename_i e; subst e
                injection hy with hy; subst hy
                exact ⟨I, hI, h1, h2, by simp, by simp only [hbk]; exact h4⟩
              · rename_i e
                exact S0.obj o y (by simp only [getO]; rw [if_neg e]; exact hy)
            · obtain ⟨y, hy⟩ := S0.dom o i hi
              simp only [List.nil_append, List.cons_append, getO] at hy ⊢
              split
              · exact ⟨_, rfl⟩
              · rename_i e; rw [if_neg e] at hy; exact ⟨y, hy⟩
            · simp only [List.nil_append, List.cons_append, getO] at hy
              split at hy
              · rename_i e; subst e
                exact S0.unf _ x i b hX hfro hi hb
              · rename_i e
                exact S0.unf o y i b (by simp only [getO]; rw [if_neg e]; exact hy) hf hi hb
          | some bb =>
            simp only [hbk] at h4
            obtain ⟨hw, cs, hown, htot, hels⟩ := h4
            rcases hels with ⟨hp, _⟩ | ⟨_, hels⟩
            · rw [hpu] at hp; cases hp
            · obtain ⟨k1, k2, k3⟩ := purEls_ok S0 hq hels
              obtain ⟨M, S1⟩ := S0.frz (u := u) k1
              have := S1.upd (x' := { x with els := l', pu := true, g := g }) ((getO_app_none hun).trans hX) hfro hI hbk (Wr.refl w' bb) hown htot rfl rfl k2 rfl (.inl ⟨rfl, k3 u (fun o x h => ⟨x, h⟩)⟩)
              refine ⟨_, RAt_mono (M _) hR, ?_⟩
              simpa using this
  · rename_i r' hne
    injection H with H
    subst H
    exact ⟨γ', hR, S⟩
theorem bldP_ok (hE : E.fid = C.fid) (hG : E.glob = C.glob) (S : St C γ w a.tmps sl ob) {t e : TypeId} {d n : Nat} {z : List PV} {parts : Array (Nat × Operand)} {r : Up} (ht : P.underlying t = some (.slice e)) (hz : zeroT P e = some z)
    (hp : parts.toList.map (·.1) = List.range n) (hn : n < 65536) (hc0 : 0 < P.cellsOf e) (hsz : P.cellsOf e ≤ 256) (H : bldP ob d (P.cellsOf e) (evs E sl (parts.toList.map (·.2))) = some r) :
    ∃ (v : Value) (w' : World) (γ' : Gh), (Instr.buildSlice t n (parts.map fun y => (y.1, a.eval y.2))).run P w = .ok v w' ∧ RV C.fid γ' w'.heap v r.1 ∧ St C γ' w' a.tmps sl (r.2 ++ ob) := by
  unfold bldP at H
  cases hb : bldS ob d (P.cellsOf e) (evs E sl (parts.toList.map (·.2))) with
  | none => rw [hb] at H; simp [bldU] at H
  | some r0 =>
    rw [hb] at H
    obtain ⟨v, w', γ', g1, g2, g3⟩ := bldS_ok hE hG S ht hz hp hn hc0 hsz hb
    obtain ⟨γ'', k1, k2⟩ := bldU_ok g2 g3 H
    exact ⟨v, w', γ'', g1, k1, k2⟩
end
end
section
open Go

section
variable {P : Program} {E : Env} {C : Ctx} {γ : Gh} {w : World} {a : Act} {sl : SL} {ob : OB}
/-- A row of bytes is marked as a literal's. -/
theorem mkS_ok (S : St C γ w a.tmps sl ob) {t e : TypeId} {x : Value} {xv : PV} {r : Up} (ht : P.underlying t = some (.slice e)) (he : P.underlying e = some (.int .u8)) (hx : RV C.fid γ w.heap x xv) (H : mkS ob xv = some r) :
    ∃ (v : Value) (w' : World) (γ' : Gh), (convert t t x).run P w = .ok v w' ∧ RV C.fid γ' w'.heap v r.1 ∧ St C γ' w' a.tmps sl (r.2 ++ ob) := by
  unfold mkS at H
  split at H
  · rename_i o ver lo n
    cases hY : getO ob o with
    | none => simp [hY, mkX] at H
    | some Y =>
      simp only [hY, mkX] at H
      split at H
      · rename_i hc
        obtain ⟨hver, hpu, hfro, hlo, hpos, hn⟩ := hc
        injection H with H; subst H; subst hlo
        obtain ⟨I, hI, hv, base, c, rfl, hh⟩ := RV_sl.1 hx
        obtain ⟨I', hI', q1, q2, q3, q4⟩ := S.obj o Y hY
        rw [hI] at hI'; injection hI' with hI'; subst hI'
        obtain ⟨k1, k2, k3⟩ := hh (by omega)
        obtain ⟨b, hbk, rfl⟩ := k3 (by omega)
        simp only [hbk] at q4
        obtain ⟨p1, cs, ⟨tt, fr, p2, p2'⟩, p3, p4⟩ := q4
        have p4 : PEls w.heap (γ.q Y.g) cs I.w 0 Y.els := by
          rcases p4 with ⟨_, p4⟩ | ⟨hp, _⟩
          · exact p4
          · rw [hpu] at hp; cases hp
        have hsh : w.shape? b = some (tt, cs.size) := by unfold World.shape?; rw [p2]
        obtain ⟨f1, f2⟩ := fr
        let fr' : Nat × Nat := if f1 == f2 then (cs.size, cs.size + 1) else (min f1 cs.size, max f2 (cs.size + 1))
        let w' : World := w.freeze { block := b, off := cs.size } 1
        have hb' : w'.heap[b]? = some (.cells cs tt fr') := by
          show (w.heap.modify b _)[b]? = _
          rw [Array.getElem?_modify, if_pos rfl, p2]; rfl
        have hfr : fr'.1 = fr'.2 ∨ cs.size ≤ fr'.1 := by
          simp only [fr']
          split
          · exact .inr (Nat.le_refl _)
          · rename_i hne
            simp only at p2'
            rcases p2' with h | h
            · exact absurd (by simpa using h) hne
            · exact .inr (by simp; omega)
        have hwr : Wr w w' b := ⟨rfl, rfl, rfl, by simp [w', World.freeze], fun k hk => by
          show (w.heap.modify b _)[k]? = _
          rw [Array.getElem?_modify, if_neg (Ne.symm hk)]⟩
        have hrun : (convert t t (.slice (some ⟨b, 0 * I.w, none⟩) n c)).run P w = .ok (.slice (some ⟨b, 0 * I.w, none⟩) n c) w' := by
          simp [convert, run_underlying' ht, run_underlying' he, markStringish, hsh, w']
        refine ⟨_, w', _, hrun, RV_sl.2 ⟨I, Gh.set_mu .., hv, _, c, rfl, fun _ => ⟨k1, k2, fun _ => ⟨b, hbk, rfl⟩⟩⟩, S.rep (i' := I) hY hfro hI (.inl rfl) (fun b' hb2 => hwr.other b' (fun e => S.unf o Y I b hY hfro hI hbk (e ▸ hb2))) (fun o' j b2 ho hj hb2 => hwr.other b2 (fun e => ho (by subst e; exact S.inj o' o j I b2 hj hI hb2 hbk))) (hwr.chg (S.own o I b hI hbk)) q1 q2 q3 hpu ?_⟩
        simp only [hbk]
        exact ⟨p1, .inl trivial, cs, ⟨tt, fr', hb', hfr⟩, p3, p4⟩
      · cases H
  · cases H
variable (hE : E.fid = C.fid) (hG : E.glob = C.glob) (S : St C γ w a.tmps sl ob)
include hE hG S
theorem opO_ok {Φ : Sem'} {o : Oper} {d : Nat} {r : Up} (hcall : ∀ f args tys, o.op ≠ .call { callee := .value f, args := args, argTypes := tys }) (H : opO P E Φ sl ob d o.op = some (some r)) :
    OK P C a.eval w a.tmps sl ob o r := by
  have wrap : ∀ {s : Sem Value}, (∃ (x : Value) (w' : World) (γ' : Gh), s.run P w = .ok x w' ∧ RV C.fid γ' w'.heap x r.1 ∧ St C γ' w' a.tmps sl (r.2 ++ ob)) → execOp a.eval o = (do pure (.value (← s))) → OK P C a.eval w a.tmps sl ob o r := by
    rintro s ⟨x, w', γ', h1, h2, h3⟩ he
    exact ⟨.value x, x, w', γ', by rw [he]; simp [h1], .inl rfl, h2, h3⟩
  have ev := ev_ok hE hG S
  unfold opO at H
  split at H
  · -- alloc
    rename_i t ho
    split at H
    · rename_i z hz
      injection H with H
      exact wrap (alloc_ok S hz H) (by simp only [execOp, ho])
    · cases H
  · -- box
    rename_i t x ho
    injection H with H
    obtain ⟨γ', h1, h2, h3⟩ := bx_ok (P := P) (t := t) S (ev x) H
    exact wrap ⟨_, _, γ', h1, h2, h3⟩ (by simp only [execOp, ho])
  · -- buildSlice
    rename_i t n parts ho
    split at H
    · rename_i e hu
      split at H
      · rename_i hc
        simp only [Bool.and_eq_true, beq_iff_eq, decide_eq_true_eq] at hc
        split at H
        · rename_i z hz
          injection H with H
          split at H
          · exact wrap (bldP_ok hE hG S hu hz hc.1.1.1 hc.2 hc.1.1.2 hc.1.2 H) (by simp only [execOp, ho])
          · exact wrap (bldS_ok hE hG S hu hz hc.1.1.1 hc.2 hc.1.1.2 hc.1.2 H) (by simp only [execOp, ho])
        · cases H
      · cases H
    · cases H
  · -- store
    rename_i t x v ho
    split at H
    · rename_i hk
      injection H with H
      obtain ⟨w', γ', h1, h2, h3⟩ := st_ok S (ev x) (ev v) hk H
      refine ⟨.skip, undef, w', γ', by simp [execOp, ho, h1], .inr ⟨rfl, rfl⟩, ?_, h3⟩
      rw [h2]; exact RV_tup.2 ⟨#[], rfl, rfl, by simp only [RL]⟩
    · cases H
  · -- makeSlice
    rename_i t l c ho
    split at H
    · rename_i e l' c' hu
      split at H
      · rename_i hlc
        subst hlc
        split at H
        · rename_i z hz
          injection H with H
          exact wrap (mks_ok S hu hz (ev (.tmp l')) H) (by simp only [execOp, ho])
        · cases H
      · cases H
    · rename_i e n m hu
      split at H
      · rename_i hlc
        subst hlc
        split at H
        · rename_i z hz
          injection H with H
          exact wrap (mks_ok S hu hz (ev (.const (.int .i64 n))) H) (by simp only [execOp, ho])
        · cases H
      · cases H
    · cases H
  · -- slice
    rename_i t x lo hi mx ho
    split at H
    · cases H
    · rename_i hmx
      have hmx : (mx.isSome && hi.isNone) = false := Bool.eq_false_iff.2 hmx
      split at H
      · rename_i n e hu
        split at H
        · rename_i h1
          injection H with H
          obtain ⟨y, γ', g1, g2, g3⟩ := slcA_ok hE hG S hmx hu h1 H
          exact wrap ⟨y, w, γ', g1, g2, g3⟩ (by simp only [execOp, ho])
        · cases H
      · rename_i e hu
        split at H
        · rename_i hk
          injection H with H
          obtain ⟨y, γ', g1, g2, g3⟩ := slc_ok hE hG S hmx hu hk H
          exact wrap ⟨y, w, γ', g1, g2, g3⟩ (by simp only [execOp, ho])
        · cases H
      · rename_i hu
        injection H with H
        obtain ⟨y, γ', g1, g2, g3⟩ := slcS_ok hE hG S hmx hu H
        exact wrap ⟨y, w, γ', g1, g2, g3⟩ (by simp only [execOp, ho])
      · cases H
  · -- convert
    rename_i src dst x ho
    split at H
    · rename_i e hs hd'
      split at H
      · rename_i he
        injection H with H
        exact wrap (s2b_ok S hs hd' (by exact he) (ev x) H) (by simp only [execOp, ho])
      · cases H
    · rename_i e0 e hs hd'
      split at H
      · rename_i hc
        subst hc
        split at H
        · rename_i he
          injection H with H
          exact wrap (mkS_ok S hd' (by exact he) (ev x) H) (by simp only [execOp, ho])
        · cases H
      · cases H
    · cases H
  · -- append
    rename_i args argTypes ho
    split at H
    · rename_i x y t u h1 h2
      have e0 : argTypes[0]? = some t := by rw [← Array.getElem?_toList, h2]; rfl
      have e1 : argTypes[1]? = some u := by rw [← Array.getElem?_toList, h2]; rfl
      have ea : args = #[x, y] := by rw [← Array.toArray_toList (xs := args), h1]
      split at H
      · rename_i e hu
        split at H
        · rename_i z hz
          split at H
          · rename_i hc
            simp only [Bool.and_eq_true, decide_eq_true_eq] at hc
            obtain ⟨du, hdu⟩ := known_some hc.2
            obtain ⟨i, zv, hi, hzv, hs1, hs2, hby, hcB, _⟩ := zeroT_R (fid := C.fid) (γ := γ) (h := w.heap) hz
            have hcell : P.cellsOf e = wds z := by simp [Program.cellsOf, hi, hs2]
            split at H
            · rename_i hint
              injection H with H
              obtain ⟨k, rfl⟩ : ∃ k, du = .int k := by
                unfold isInt at hint
                rw [hdu] at hint
                cases du <;> first | exact ⟨_, rfl⟩ | simp at hint
              have hy := ev y
              generalize Go.Proofs.YtcimkkcajkmfoaaDoor.ev E sl y = yv at hy H
              cases yv <;> simp only [apz] at H <;> try (cases H; done)
              rename_i k' m
              split at H
              · rename_i hm
                obtain ⟨m0, m1, m2⟩ := hm
                rw [RV_i] at hy
                obtain ⟨m', rfl⟩ : ∃ m' : Nat, m = m' := ⟨m.toNat, by omega⟩
                simp only [two32] at m1
                simp only [Int.toNat_natCast] at H
                obtain ⟨v, w', γ', g1, g2, g3⟩ := apE_ok (ty := o.type) (y := .int k' m') S hs1 hc.1 (ev x) (fun _ => apd_int (at' := argTypes) e0 e1 hu hdu hi hzv hs1 hs2 hby hc.1 hcB (by omega) m2) H
                exact ⟨.value v, v, w', γ', by simp [execOp, ho, resolve, invoke, builtin, ea, hy, g1], .inl rfl, g2, g3⟩
              · cases H
            · rename_i hint
              injection H with H
              unfold ap at H
              cases hcn : cont ob (Go.Proofs.YtcimkkcajkmfoaaDoor.ev E sl y) with
              | none => simp [hcn, apC] at H
              | some q =>
                simp only [hcn, apC] at H
                rw [hcell] at H
                have hni : ∀ k, du ≠ .int k := fun k e => hint (by simp [isInt, hdu, e])
                obtain ⟨v, w', γ', g1, g2, g3⟩ := apE_ok (ty := o.type) S hs1 hc.1 (ev x) (fun hW => apd_src e0 e1 hu hdu hi hzv hs2 hby hc.1 hni (cont_ok S (ev y) hcn) hW) H
                exact ⟨.value v, v, w', γ', by simp [execOp, ho, resolve, invoke, builtin, ea, g1], .inl rfl, g2, g3⟩
          · cases H
        · cases H
      · cases H
    · cases H
  · -- copy
    rename_i args argTypes ho
    split at H
    · rename_i x y t r' h1 h2
      have e0 : argTypes[0]? = some t := by rw [← Array.getElem?_toList, h2]; rfl
      have ea : args = #[x, y] := by rw [← Array.toArray_toList (xs := args), h1]
      split at H
      · rename_i e hu
        split at H
        · rename_i hc
          simp only [Bool.and_eq_true, decide_eq_true_eq] at hc
          injection H with H
          unfold cpy at H
          cases hcn : cont ob (Go.Proofs.YtcimkkcajkmfoaaDoor.ev E sl y) with
          | none => simp [hcn, cpC] at H
          | some q =>
            simp only [hcn, cpC] at H
            obtain ⟨v, w', γ', g1, g2, g3⟩ := cpX_ok (ty := o.type) S e0 hu hc.1 hc.2 (ev x) (cont_ok S (ev y) hcn) H
            exact ⟨.value v, v, w', γ', by simp [execOp, ho, resolve, invoke, builtin, ea, g1], .inl rfl, g2, g3⟩
        · cases H
      · cases H
    · cases H
  · rename_i f args tys ho; exact absurd ho (hcall _ _ _)
  · rename_i f args tys ho; exact absurd ho (hcall _ _ _)
  · cases H
end
end
section
open Go

/-- Blocks that nobody writes, and that were lent to nobody. -/
def Gh.good (γ : Gh) : Gh := { γ with im := fun b => γ.im b ∧ γ.gn b }
section
variable {fid : Nat → Nat} {γ : Gh} {h : Array Obj}
theorem q_good {b : Nat} (H : γ.q true b) : γ.good.q true b ∧ h[b]? = h[b]? := ⟨⟨⟨H.1, H.2 rfl⟩, fun _ => H.2 rfl⟩, rfl⟩
mutual
theorem RAt_good : ∀ (v : PV) (cs : Array Value) (off : Nat), noExt v = true → RAt fid γ h cs off v → RAt fid γ.good h cs off v
  | .b _, _, _, _, H | .i _ _, _, _, _, H | .s _, _, _, _, H | .blob _ _, _, _, _, H | .np, _, _, _, H | .nf, _, _, _, H | .ub, _, _, _, H | .un, _, _, _, H | .e _, _, _, _, H
    => by simpa only [RAt] using H
  | .sl .., _, _, _, H | .bs .., _, _, _, H | .p .., _, _, _, H => by simp only [RAt] at H ⊢; exact H
  | .l g xs, cs, off, hn, H => by
    simp only [noExt] at hn; subst hn
    simp only [RAt] at H ⊢; exact PAt_mono (fun b hb => q_good hb) _ _ _ H
  | .ln g xs, cs, off, hn, H => by
    simp only [noExt] at hn; subst hn
    simp only [RAt] at H ⊢; exact ⟨PAt_mono (fun b hb => q_good hb) _ _ _ H.1, H.2⟩
  | .q g xs bi, cs, off, hn, H => by
    simp only [noExt] at hn; subst hn
    simp only [RAt] at H ⊢
    obtain ⟨b, o, cs', e, hb, hr, H⟩ := H
    exact ⟨b, o, cs', e, (q_good (h := h) hb).1, hr, PCells_mono (fun b hb => q_good hb) _ _ _ H⟩
  | .agg xs, cs, off, hn, H => by
    simp only [noExt] at hn
    simp only [RAt] at H ⊢
    obtain ⟨arr, e, hs, H⟩ := H
    exact ⟨arr, e, hs, RCells_good xs arr 0 hn H⟩
  | .tup vs, cs, off, hn, H => by
    simp only [noExt] at hn
    simp only [RAt] at H ⊢
    obtain ⟨arr, e, hs, H⟩ := H
    exact ⟨arr, e, hs, RL_good vs arr 0 hn H⟩
  | .fn k fs cap, cs, off, hn, H => by
    simp only [noExt, Bool.and_eq_true] at hn
    simp only [RAt] at H ⊢
    obtain ⟨f0, a1, a2, e, ef, H1, H2⟩ := H
    exact ⟨f0, a1, a2, e, ef, ⟨H1.1, RL_good fs a1 0 hn.1 H1.2⟩, H2.1, RL_good cap a2 0 hn.2 H2.2⟩
  | .y _ _ _, cs, off, _, H => by simp only [RAt] at H ⊢; exact H
theorem RCells_good : ∀ (l : List PV) (cs : Array Value) (off : Nat), noExts l = true → RCells fid γ h cs off l → RCells fid γ.good h cs off l
  | [], _, _, _, _ => by simp only [RCells]
  | v :: r, cs, off, hn, H => by
    simp only [noExts, Bool.and_eq_true] at hn
    simp only [RCells] at H ⊢
    exact ⟨⟨H.1.1, RAt_good v cs off hn.1 H.1.2⟩, RCells_good r cs _ hn.2 H.2⟩
theorem RL_good : ∀ (l : List PV) (cs : Array Value) (off : Nat), noExts l = true → RL fid γ h cs off l → RL fid γ.good h cs off l
  | [], _, _, _, _ => by simp only [RL]
  | v :: r, cs, off, hn, H => by
    simp only [noExts, Bool.and_eq_true] at hn
    simp only [RL] at H ⊢
    obtain ⟨⟨x, hx, H1⟩, H2⟩ := H
    exact ⟨⟨x, hx, RAt_good v #[x] 0 hn.1 H1⟩, RL_good r cs _ hn.2 H2⟩
end
theorem REls_good : ∀ (l : List (List PV)) (cs : Array Value) (w off : Nat), noExtEls l = true → REls fid γ h cs w off l → REls fid γ.good h cs w off l
  | [], _, _, _, _, _ => by simp only [REls]
  | x :: r, cs, w, off, hn, H => by
    simp only [noExtEls, Bool.and_eq_true] at hn
    simp only [REls] at H ⊢
    exact ⟨H.1, RCells_good x cs off hn.1 H.2.1, REls_good r cs w _ hn.2 H.2.2⟩
theorem ORel_good {x : Obj'} {i : HI} (hn : noExtO x = true) (H : ORel fid γ h x i) : ORel fid γ.good h x i := by
  obtain ⟨h1, h2, h3, h4⟩ := H
  refine ⟨h1, h2, h3, ?_⟩
  cases hbk : i.blk with
  | none => simpa only [hbk] using h4
  | some b =>
    simp only [hbk] at h4 ⊢
    obtain ⟨hw, cs, ho, ht, H⟩ := h4
    refine ⟨hw, cs, ho, ht, ?_⟩
    rcases H with ⟨hp, H⟩ | ⟨hp, H⟩
    · simp only [noExtO, hp, if_true] at hn
      rw [hn] at H ⊢
      exact .inl ⟨hp, PEls_mono (fun b hb => q_good hb) _ _ _ _ H⟩
    · simp only [noExtO, hp, Bool.false_eq_true, if_false] at hn
      exact .inr ⟨hp, REls_good _ _ _ _ hn H⟩
end

/-- From a call's state to its callee's: numbers as they are; L: objects that are lent. -/
structure Lent (γ γ' : Gh) (L : List Nat) : Prop where
  mu : ∀ o i, γ.mu o = some i → γ'.mu o = some i
  q : ∀ g b, γ.q g b → γ'.q g b
  im : ∀ o i b, o ∈ L → γ.mu o = some i → i.blk = some b → γ'.im b
theorem Lent.sub {γ γ' : Gh} {L L' : List Nat} (l : Lent γ γ' L) (h : ∀ o, o ∈ L' → o ∈ L) : Lent γ γ' L' := ⟨l.mu, l.q, fun o i b ho => l.im o i b (h o ho)⟩
theorem Lent.mv {γ γ' : Gh} {L : List Nat} (l : Lent γ γ' L) (h : Array Obj) (S : List Nat) : Mv γ γ' h h S (fun o => o) := ⟨fun o _ i hi => ⟨i, l.mu o i hi, .inl rfl⟩, fun g b hb => ⟨l.q g b hb, rfl⟩⟩

section
variable {C : Ctx} {γ γ' : Gh} {w : World} {act : Act} {sl : SL} {ob : OB}
theorem obj_of (S : St C γ w act.tmps sl ob) {o : Nat} {x : Obj'} (hx : getO ob o = some x) : ∃ i, γ.mu o = some i ∧ ORel C.fid γ w.heap x i := S.obj o x hx
/-- A row of the object o, as plain data. -/
theorem lend_row (S : St C γ w act.tmps sl ob) {o ver lo n : Nat} {cs : Array Value} {off : Nat} {r : Bool × List (List PV)} (hl : Lent γ γ' [o]) (H : RAt C.fid γ w.heap cs off (.sl o ver lo n)) (hc : contX (getO ob o) ver lo n = some r) :
    RAt C.fid γ' w.heap cs off (.l false r.2) := by
  simp only [RAt] at H
  obtain ⟨i, hi, hv, a, c, e, hh⟩ := H
  have hsl : RV C.fid γ w.heap (.slice a n c) (.sl o ver lo n) := RV_sl.2 ⟨i, hi, hv, a, c, rfl, hh⟩
  obtain ⟨⟨a', c', e', hlc, hS⟩, hlen⟩ := contX_ok S hsl hc
  injection e' with e1 e2 e3; subst e1; subst e3
  simp only [RAt, PAt]
  refine ⟨a, c, by rw [hlen]; exact e, hlc, ?_⟩
  rcases Nat.eq_zero_or_pos n with h0 | hpos
  · exact .inl (List.length_eq_zero_iff.1 (hlen.trans h0))
  refine hS.imp id ?_
  rintro ⟨b, o', w', cs', ea, hrow, hE⟩
  have hbk : i.blk = some b := by
    cases hx : getO ob o with
    | none => simp [hx, contX] at hc
    | some x =>
      rw [hx] at hc
      obtain ⟨i', hi', h1, _⟩ := S.obj o x hx
      rw [hi] at hi'; injection hi' with hi'; subst hi'
      have hver : x.ver = ver := by
        simp only [contX] at hc
        split at hc
        · rename_i h; exact h.2.1
        · cases hc
      obtain ⟨g1, g2, g3⟩ := hh (by omega)
      obtain ⟨b', hb', ea'⟩ := g3 (by omega)
      rw [ea] at ea'; injection ea' with ea'; injection ea' with ea' _; rw [ea']; exact hb'
  exact ⟨b, o', w', cs', ea, ⟨hl.im o i b (by simp) hi hbk, by simp⟩, hrow, PEls_mono (fun b hb => ⟨⟨(hl.q _ b hb).1, by simp⟩, rfl⟩) _ _ _ _ hE⟩
theorem reify0_ok (S : St C γ w act.tmps sl ob) {v v' : PV} {L : List Nat} {cs : Array Value} {off : Nat} (H : reify0 ob v = some (v', L)) (hl : Lent γ γ' L) (hr : RAt C.fid γ w.heap cs off v) :
    RAt C.fid γ' w.heap cs off v' ∧ wd v' = wd v ∧ (cellV v = true → cellV v' = true) := by
  have flatl : ∀ {g : Bool} {xs : List (List PV)}, PAt w.heap (γ.q g) cs off (.l g xs) → RAt C.fid γ' w.heap cs off (.l false xs) := by
    intro g xs h
    simp only [RAt]
    have := PAt_mono (q' := γ'.q false) (h' := w.heap) (fun b hb => ⟨⟨(hl.q g b hb).1, by simp⟩, rfl⟩) _ _ _ h
    simpa only [PAt] using this
  unfold reify0 at H
  split at H
  · simp only [Option.some.injEq, Prod.mk.injEq] at H; obtain ⟨rfl, rfl⟩ := H
    simp only [RAt] at hr
    exact ⟨flatl hr, rfl, fun _ => rfl⟩
  · simp only [Option.some.injEq, Prod.mk.injEq] at H; obtain ⟨rfl, rfl⟩ := H
    simp only [RAt] at hr
    exact ⟨flatl hr.1, rfl, fun _ => rfl⟩
  · simp only [Option.some.injEq, Prod.mk.injEq] at H; obtain ⟨rfl, rfl⟩ := H
    simp only [RAt] at hr
    obtain ⟨a, e, _⟩ := hr
    exact ⟨by simp only [RAt, PAt]; exact ⟨a, 0, e, Nat.zero_le _, .inl trivial⟩, rfl, fun _ => rfl⟩
  · rename_i o ver lo n
    cases hc : contX (getO ob o) ver lo n with
    | none => simp [hc] at H
    | some r =>
      simp only [hc, Option.map_some, Option.some.injEq, Prod.mk.injEq] at H; obtain ⟨rfl, rfl⟩ := H
      exact ⟨lend_row S hl hr hc, rfl, fun _ => rfl⟩
  · rename_i o o' lo n
    cases hc : contL ob (.bs o o' lo n) with
    | none => simp [hc] at H
    | some r =>
      simp only [hc, Option.map_some, Option.some.injEq, Prod.mk.injEq] at H; obtain ⟨rfl, rfl⟩ := H
      refine ⟨?_, rfl, fun _ => rfl⟩
      simp only [RAt] at hr
      obtain ⟨i, hi, a, c, e, hn, hh⟩ := hr
      have hbs : RV C.fid γ w.heap (.slice (some a) n c) (.bs o o' lo n) := RV_bs.2 ⟨i, hi, a, c, rfl, hn, hh⟩
      obtain ⟨a', c', e', hlc, hS⟩ := contL_ok S hbs hc
      injection e' with e1 e2 e3; subst e1; subst e3
      simp only [RAt, PAt]
      refine ⟨some a, c, by rw [← e2]; exact e, hlc, ?_⟩
      rcases Nat.eq_zero_or_pos n with h0 | hpos
      · exact .inl (List.length_eq_zero_iff.1 (e2.symm.trans h0))
      refine hS.imp id ?_
      rintro ⟨b, o2, w', cs', ea, hrow, hE⟩
      have hver : i.ver = 0 := by
        cases hr : atO (getO ob o) 0 0 o' with
        | none => simp [contL, hr, blobAt, contB] at hc
        | some cells =>
          cases ho : getO ob o with
          | none => simp [ho, atO] at hr
          | some X =>
            simp only [ho, atO] at hr
            split at hr
            · rename_i hver
              obtain ⟨I', hI', h1, _⟩ := S.obj o X ho
              rw [hi] at hI'; injection hI' with hI'; subst hI'
              omega
            · cases hr
      obtain ⟨b', hb', ea'⟩ := hh hver.symm (by omega)
      injection ea with ea
      have hbb : b' = b := by rw [ea] at ea'; injection ea' with h1 _; exact h1.symm
      subst hbb
      exact ⟨b', o2, w', cs', by rw [ea], ⟨hl.im o i b' (by simp) hi hb', by simp⟩, hrow, PEls_mono (fun b hb => ⟨⟨(hl.q _ b hb).1, by simp⟩, rfl⟩) _ _ _ _ hE⟩
  · simp only [Option.some.injEq, Prod.mk.injEq] at H; obtain ⟨rfl, rfl⟩ := H
    exact ⟨RAt_mono (hl.mv _ _) hr, rfl, id⟩
theorem reifyL_ok (S : St C γ w act.tmps sl ob) : ∀ {l l' : List PV} {L : List Nat} {cs : Array Value} {off : Nat}, reifyL ob l = some (l', L) → Lent γ γ' L → RCells C.fid γ w.heap cs off l → RCells C.fid γ' w.heap cs off l' ∧ wds l' = wds l
  | [], l', L, cs, off, H, _, _ => by
    simp only [reifyL, Option.some.injEq, Prod.mk.injEq] at H; obtain ⟨rfl, rfl⟩ := H
    exact ⟨by simp only [RCells], rfl⟩
  | v :: r, l', L, cs, off, H, hl, hr => by
    simp only [reifyL] at H
    split at H
    · rename_i a b ha hb
      simp only [Option.some.injEq, Prod.mk.injEq] at H; obtain ⟨rfl, rfl⟩ := H
      simp only [RCells] at hr
      obtain ⟨h1, h2, h3⟩ := reify0_ok (v' := a.1) (L := a.2) S ha (hl.sub fun o ho => List.mem_append_left _ ho) hr.1.2
      obtain ⟨g1, g2⟩ := reifyL_ok (l' := b.1) (L := b.2) S hb (hl.sub fun o ho => List.mem_append_right _ ho) hr.2
      exact ⟨by simp only [RCells]; exact ⟨⟨h3 hr.1.1, h1⟩, by rw [h2]; exact g1⟩, by simp only [wds, h2, g2]⟩
    · cases H
theorem reifyEls_ok (S : St C γ w act.tmps sl ob) : ∀ {l l' : List (List PV)} {L : List Nat} {cs : Array Value} {w' off : Nat}, reifyEls ob l = some (l', L) → Lent γ γ' L → REls C.fid γ w.heap cs w' off l → REls C.fid γ' w.heap cs w' off l' ∧ l'.length = l.length
  | [], l', L, cs, w', off, H, _, _ => by
    simp only [reifyEls, Option.some.injEq, Prod.mk.injEq] at H; obtain ⟨rfl, rfl⟩ := H
    exact ⟨by simp only [REls], rfl⟩
  | x :: r, l', L, cs, w', off, H, hl, hr => by
    simp only [reifyEls] at H
    split at H
    · rename_i a b ha hb
      simp only [Option.some.injEq, Prod.mk.injEq] at H; obtain ⟨rfl, rfl⟩ := H
      simp only [REls] at hr
      obtain ⟨h1, h2⟩ := reifyL_ok (l' := a.1) (L := a.2) S ha (hl.sub fun o ho => List.mem_append_left _ ho) hr.2.1
      obtain ⟨g1, g2⟩ := reifyEls_ok (l' := b.1) (L := b.2) S hb (hl.sub fun o ho => List.mem_append_right _ ho) hr.2.2
      exact ⟨by simp only [REls]; exact ⟨by rw [h2]; exact hr.1, h1, g1⟩, by simp [g2]⟩
    · cases H
theorem REls_sub {fid : Nat → Nat} {h : Array Obj} {cs : Array Value} {w' off : Nat} {l : List (List PV)} (H : REls fid γ h cs w' off l) (lo n : Nat) : REls fid γ h cs w' (off + lo * w') ((l.drop lo).take n) :=
  REls_of fun i x hx => by
    have hi : i < n := by
      have := (List.getElem?_eq_some_iff.1 hx).1
      simp only [List.length_take] at this; omega
    rw [List.getElem?_take_of_lt hi, List.getElem?_drop] at hx
    have := REls_get H _ x hx
    rwa [Nat.add_mul, ← Nat.add_assoc] at this
theorem reify_ok (S : St C γ w act.tmps sl ob) {v v' : PV} {L : List Nat} {x : Value} (H : reify ob v = some (v', L)) (hl : Lent γ γ' L) (hr : RV C.fid γ w.heap x v) : RV C.fid γ' w.heap x v' := by
  unfold reify at H
  split at H
  · rename_i cs
    cases hc : reifyL ob cs with
    | none => simp [hc] at H
    | some r =>
      simp only [hc, Option.map_some, Option.some.injEq, Prod.mk.injEq] at H; obtain ⟨rfl, rfl⟩ := H
      obtain ⟨arr, e, hs, hR⟩ := RV_agg.1 hr
      obtain ⟨h1, h2⟩ := reifyL_ok (l' := r.1) (L := r.2) S hc hl hR
      exact RV_agg.2 ⟨arr, e, by rw [h2]; exact hs, h1⟩
  · rename_i o ver lo n
    cases hx : getO ob o with
    | none => simp [hx] at H
    | some X =>
      simp only [hx] at H
      split at H
      · exact (reify0_ok S H hl hr).1
      · rename_i hpu
        split at H
        · rename_i hc
          cases hre : reifyEls ob ((X.els.drop lo).take n) with
          | none => simp [hre] at H
          | some q =>
            simp only [hre, Option.bind_some] at H
            split at H
            · rename_i hp
              simp only [Option.some.injEq, Prod.mk.injEq] at H; obtain ⟨rfl, rfl⟩ := H
              obtain ⟨i, hi, hv, a, c, e, hh⟩ := RV_sl.1 hr
              obtain ⟨i', hi', q1, q2, q3, q4⟩ := S.obj o X hx
              rw [hi] at hi'; injection hi' with hi'; subst hi'
              obtain ⟨k1, k2, k3⟩ := hh (by omega)
              have hlen : ((X.els.drop lo).take n).length = n := by simp; omega
              rw [RV_l]
              rcases Nat.eq_zero_or_pos n with h0 | hpos
              · subst h0
                simp only [List.take_zero, reifyEls, Option.some.injEq] at hre
                rw [← hre]
                exact ⟨a, c, by rw [e]; rfl, Nat.zero_le _, .inl rfl⟩
              · obtain ⟨b, hbk, ea⟩ := k3 (by omega)
                simp only [hbk] at q4
                obtain ⟨p1, cs, p2, p3, p4⟩ := q4
                rcases p4 with ⟨hp', _⟩ | ⟨_, p4⟩
                · exact absurd hp' hpu
                · have hsub := REls_sub p4 lo n
                  rw [Nat.zero_add] at hsub
                  obtain ⟨g1, g2⟩ := reifyEls_ok (l' := q.1) (L := q.2) S hre (hl.sub fun o ho => List.mem_cons_of_mem _ ho) hsub
                  refine ⟨a, c, by rw [e, g2, hlen], by rw [g2, hlen]; exact k2, .inr ⟨b, lo * i.w, i.w, cs, ea, ⟨hl.im o i b (by simp) hi hbk, by simp⟩, p2.row, pure_E hp (by simp) g1⟩⟩
            · cases H
        · cases H
  · exact (reify0_ok S H hl hr).1
theorem reifies_ok (S : St C γ w act.tmps sl ob) : ∀ {l l' : List PV} {L : List Nat} {args : Array Value} {off : Nat}, reifies ob l = some (l', L) → Lent γ γ' L → RL C.fid γ w.heap args off l → RL C.fid γ' w.heap args off l' ∧ l'.length = l.length
  | [], l', L, args, off, H, _, _ => by
    simp only [reifies, Option.some.injEq, Prod.mk.injEq] at H; obtain ⟨rfl, rfl⟩ := H
    exact ⟨by simp only [RL], rfl⟩
  | v :: r, l', L, args, off, H, hl, hr => by
    simp only [reifies] at H
    split at H
    · rename_i a b ha hb
      simp only [Option.some.injEq, Prod.mk.injEq] at H; obtain ⟨rfl, rfl⟩ := H
      simp only [RL] at hr
      obtain ⟨⟨x, hx, h1⟩, h2⟩ := hr
      have g := reify_ok (v' := a.1) (L := a.2) S ha (hl.sub fun o ho => List.mem_append_left _ ho) h1
      obtain ⟨g1, g2⟩ := reifies_ok (l' := b.1) (L := b.2) S hb (hl.sub fun o ho => List.mem_append_right _ ho) h2
      exact ⟨by simp only [RL]; exact ⟨⟨x, hx, g⟩, g1⟩, by simp [g2]⟩
    · cases H
end
end
end Go.Proofs.YtcimkkcajkmfoaaDoor
