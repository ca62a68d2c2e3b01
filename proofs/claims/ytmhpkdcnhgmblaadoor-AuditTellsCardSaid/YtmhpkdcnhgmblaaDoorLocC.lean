import Derived.Test.YtmhpkdcnhgmblaaDoorLocB
set_option linter.all false
namespace Go.Proofs.YtmhpkdcnhgmblaaDoor
section
open Go
section
variable {P : Program} {E : Env} {Φ : Sem'} {sl sl' : SL} {ob ob' : OB} {d : Nat}
theorem evs_sl {l : List Operand} (h : ∀ x ∈ l, ev E sl x = ev E sl' x) : evs E sl l = evs E sl' l := by
  induction l with
  | nil => rfl
  | cons x r ih => simp only [evs]; rw [h x (by simp), ih (fun y hy => h y (List.mem_cons_of_mem _ hy))]
theorem evo_sl {x : Option Operand} (h : ∀ y, x = some y → ev E sl y = ev E sl' y) : evo E sl x = evo E sl' x := by
  cases x with
  | none => rfl
  | some y => simp only [evo]; rw [h y rfl]
theorem evps_sl {off : Nat → Option (Nat × Nat)} {l : List (Nat × Operand)} (h : ∀ x ∈ l, ev E sl x.2 = ev E sl' x.2) : evps E sl off l = evps E sl' off l := by
  induction l with
  | nil => rfl
  | cons x r ih => simp only [evps]; rw [h x (by simp), ih (fun y hy => h y (List.mem_cons_of_mem _ hy))]
theorem opA_sl {o : Op} (h : ∀ x ∈ o.operands, ev E sl x = ev E sl' x) : opA P E Φ sl ob d o = opA P E Φ sl' ob d o := by
  cases o <;> simp only [Op.operands] at h <;> try rfl
  case move x => simp only [opA, opV]; rw [h x (by simp)]
  case assign x => simp only [opA, opV]; rw [h x (by simp)]
  case pick c a b => simp only [opA, opV, opP]; rw [h c (by simp), h a (by simp), h b (by simp)]
  case box t x => simp only [opA, opV, opP, opO]; rw [h x (by simp)]
  case build t ps =>
    simp only [opA, opV, opP]
    have he : ∀ off, evps E sl off ps.toList = evps E sl' off ps.toList := fun off => evps_sl fun x hx => h x.2 (by simp; exact ⟨x.1, by simpa using hx⟩)
    simp only [he, opO]
  case buildSlice t n ps =>
    simp only [opA, opV, opP, opO]
    have he : evs E sl (ps.toList.map (·.2)) = evs E sl' (ps.toList.map (·.2)) := evs_sl fun x hx => h x (by simpa using hx)
    rw [he]
  case load t x => simp only [opA, opV, opP, opO]; rw [h x (by simp)]
  case store t x v => simp only [opA, opV, opP, opO]; rw [h x (by simp), h v (by simp)]
  case nilCheck x => simp only [opA, opV, opP]; rw [h x (by simp)]
  case binOp op t x y yt =>
    have hx := h x (by simp)
    have hy := h y (by simp)
    have hq : ∀ neg q, eqSt P E neg t x y sl q = eqSt P E neg t x y sl' q := fun neg q => by cases q <;> simp only [eqSt, hx, hy]
    simp only [opA, opV, opP, opO, eqP, hq]; rw [hx, hy]
  case unOp op t x => simp only [opA, opV, opP]; rw [h x (by simp)]
  case convert s t x => simp only [opA, opV, opP, opO]; rw [h x (by simp)]
  case makeFunc f a b =>
    have ha : evs E sl a.toList = evs E sl' a.toList := evs_sl fun x hx => h x (by simp; exact .inl (by simpa using hx))
    have hb : evs E sl b.toList = evs E sl' b.toList := evs_sl fun x hx => h x (by simp; exact .inr (by simpa using hx))
    cases f <;> simp only [opA, opV, opP, opO]
    rw [ha, hb]
  case makeSlice t l c =>
    have hl := h l (by simp)
    simp only [opA, opV, opP, opO]; rw [hl]
  case slice t x lo hi mx =>
    have h0 := h x (by simp)
    have h1 : evo E sl lo = evo E sl' lo := evo_sl fun y e => h y (by subst e; simp)
    have h2 : evo E sl hi = evo E sl' hi := evo_sl fun y e => h y (by subst e; simp)
    have h3 : evo E sl mx = evo E sl' mx := evo_sl fun y e => h y (by subst e; simp)
    simp only [opA, opV, opP, opO]; rw [h0, h1, h2, h3]
  case fieldAddr t x f => simp only [opA, opV, opP, opO]; rw [h x (by simp)]
  case field t x f => simp only [opA, opV, opP, opO]; rw [h x (by simp)]
  case indexAddr t x i => simp only [opA, opV, opP, opO]; rw [h x (by simp), h i (by simp)]
  case index t x i => simp only [opA, opV, opP, opO]; rw [h x (by simp), h i (by simp)]
  case extract x k => simp only [opA, opV, opP]; rw [h x (by simp)]
  case call c =>
    obtain ⟨callee, args, argTypes⟩ := c
    have ha : ∀ x ∈ args.toList, ev E sl x = ev E sl' x := fun x hx => h x (by simp only [Call.operands, Array.mem_append]; exact .inr (by simpa using hx))
    have hs : evs E sl args.toList = evs E sl' args.toList := evs_sl ha
    cases callee with
    | invoke r m => rfl
    | value f =>
      have hf : ev E sl f = ev E sl' f := h f (by simp [Call.operands])
      cases f with
      | func f0 => simp only [opA, opV, opP, opO]; rw [hs]
      | tmp t => simp only [opA, opV, opP, opO]; rw [hs, hf]
      | const v => simp only [opA, opV, opP, opO]; rw [hs, hf]
      | global g => simp only [opA, opV, opP, opO]; rw [hs, hf]
    | builtin b =>
      clear hs h
      cases b <;> simp only [opA, opV, opP, opO]
      all_goals (try rfl)
      all_goals (generalize args.toList = L at ha ⊢)
      all_goals (rcases L with _ | ⟨x, _ | ⟨y, _ | ⟨z, L⟩⟩⟩)
      all_goals (try rfl)
      all_goals (generalize argTypes.toList = T)
      all_goals (rcases T with _ | ⟨t, _ | ⟨u, _ | ⟨s, T⟩⟩⟩)
      all_goals (try rfl)
      all_goals (have hx := ha x (by simp))
      all_goals (try (have hy := ha y (by simp)))
      all_goals (try simp only [hx])
      all_goals (try simp only [hy])
theorem accs_sl {o : Op} (h : ∀ x ∈ o.operands, ev E sl x = ev E sl' x) : accs E sl o = accs E sl' o := by
  cases o <;> simp only [Op.operands] at h <;> try rfl
  case load t x => simp only [accs]; rw [h x (by simp)]
  case store t x v => simp only [accs]; rw [h x (by simp), h v (by simp)]
  case slice t x lo hi mx => simp only [accs]; rw [h x (by simp)]
  case indexAddr t x i => simp only [accs]; rw [h x (by simp)]
  case convert s t x => simp only [accs]; rw [h x (by simp)]
  case binOp op t x y yt => simp only [accs]; rw [h x (by simp), h y (by simp)]
  case buildSlice t n ps =>
    simp only [accs]
    exact evs_sl fun x hx => h x (by simpa using hx)
  case call c =>
    obtain ⟨callee, args, argTypes⟩ := c
    simp only [accs]
    exact evs_sl fun x hx => h x (by simp only [Call.operands, Array.mem_append]; exact .inr (by simpa using hx))
section
variable {K : Nat → Prop}
theorem isArr_sl {t : TypeId} {e : TypeId} (h : P.underlying t = some (.slice e)) : isArr P t = false := by unfold isArr; rw [h]
theorem opP_F {o : Op} (hK : memC P E o ≠ 0 → ∀ k ∈ refsL (accs E sl o), K k) (hF : AgF K ob ob') : opP P E sl ob o = opP P E sl ob' o := by
  cases o <;> try rfl
  case load t x =>
    have hx : ∀ k ∈ refs (ev E sl x), K k := by simpa [memC, accs, refsL] using hK
    simp only [opP]; rw [lN_F hF _ hx, l1_F hF hx]
  case binOp op t x y yt =>
    have hx : ∀ k ∈ refs (ev E sl x), K k := fun k hk => hK (by simp [memC]) k (by simp [accs, refsL, hk])
    have hy : ∀ k ∈ refs (ev E sl y), K k := fun k hk => hK (by simp [memC]) k (by simp [accs, refsL, hk])
    simp only [opP, eqP, eqN]
    rw [eNs_F hF false hx, eNs_F hF true hx, eNs_F hF false hy, eNs_F hF true hy]
  case convert s t x =>
    have hx : ∀ k ∈ refs (ev E sl x), K k := fun k hk => hK (by simp only [memC]; split <;> simp) k (by simp [accs, refsL, hk])
    simp only [opP]; rw [b2s_F hF hx]
  case indexAddr t x i =>
    simp only [opP]
    split
    · rename_i e he
      have hx : ∀ k ∈ refs (ev E sl x), K k := by simpa [memC, accs, refsL, isArr_sl he] using hK
      rw [xS_F hF _ hx]
    · rfl
    · rfl
  case call c =>
    obtain ⟨callee, args, argTypes⟩ := c
    cases callee with
    | invoke r m => rfl
    | value f => cases f <;> rfl
    | builtin b =>
      cases b <;> try rfl
      case cap =>
        have hx : ∀ k ∈ refsL (evs E sl args.toList), K k := by simpa [memC, accs] using hK
        simp only [opP]
        generalize args.toList = L at hx
        rcases L with _ | ⟨x, _ | ⟨y, L⟩⟩ <;> try rfl
        generalize argTypes.toList = T
        rcases T with _ | ⟨t, _ | ⟨u, T⟩⟩ <;> try rfl
        simp only [cp_F hF (v := ev E sl x) (fun k hk => hx k (by simp [evs, refsL, hk]))]
def jn : Option (Option Up) → Option Up
  | some x => x
  | none => none
theorem opO_LU (hro : True) (hrov : E.rov = false ∧ True) {o : Op} {c : Nat} (hc : memC P E o = c) (hK : c ≠ 0 → ∀ k ∈ refsL (accs E sl o), K k)
    (hK3 : c = 3 ∨ c = 4 → (∀ x ∈ o.operands, ∀ k ∈ refs (ev E sl x), K k) ∧ Clo K ob) (hF : AgF K ob ob') (hE' : c = 2 ∨ c = 4 → AgE K ob ob') :
    LU c K ob ob' (jn (opO P E Φ sl ob d o)) (jn (opO P E Φ sl ob' d o)) := by
  cases o <;> try exact LU.none _
  case alloc t =>
    simp only [opO]
    split
    · exact LU.new _ _ _
    · exact LU.none _
  case box t x => simp only [opO, jn, bx, al]; exact LU.ite (fun _ => LU.new _ _ _) (fun _ => LU.none _)
  case buildSlice t n ps =>
    simp only [opO]
    split
    · split
      · split
        · simp only [jn]
          by_cases hpb : E.pb = true
          · rw [if_pos hpb, if_pos hpb]
            have h2 : c = 2 := by rw [← hc]; simp [memC, hpb]
            exact bldP_LU (.inl h2) (hE' (.inl h2)) _ _ (fun k hk => hK (by omega) k hk)
          rw [if_neg hpb, if_neg hpb]
          cases evs E sl (ps.toList.map (·.2)) with
          | nil => exact LU.eq rfl (fun r hr => by simp only [bldS, Option.some.injEq] at hr; subst hr; exact Upd.nil)
          | cons v r => simp only [bldS]; exact LU.ite (fun _ => LU.new _ _ _) (fun _ => LU.none _)
        · exact LU.none _
      · exact LU.none _
    · exact LU.none _
  case store t x v =>
    have h2 : c = 2 := hc.symm
    have hx : ∀ k ∈ refs (ev E sl x), K k := fun k hk => hK (by omega) k (by simp [accs, refsL, hk])
    have hv : ∀ k ∈ refs (ev E sl v), K k := fun k hk => hK (by omega) k (by simp [accs, refsL, hk])
    simp only [opO]
    split
    · exact LU.eq (st_E (hE' (.inl h2)) _ hx hv) (fun r hr => upd_K (.inl h2) (fun k X hk => (st_K hr k X hk).elim (hx k) (hv k)))
    · exact LU.none _
  case convert s t x =>
    simp only [opO]
    split
    · split
      · simp only [jn]
        cases ev E sl x <;> try exact LU.none _
        exact LU.new _ _ _
      · exact LU.none _
    · rename_i e0 e hs ht
      split
      · split
        · have h2 : c = 2 := by rw [← hc]; simp [memC, isSl, hs, ht]
          have hx : ∀ k ∈ refs (ev E sl x), K k := fun k hk => hK (by omega) k (by simp [accs, refsL, hk])
          simp only [jn]
          generalize ev E sl x = v at hx
          cases v <;> try exact LU.none _
          case sl o ver lo n =>
            have ho : K o := hx o (by simp [refs])
            simp only [mkS]
            rw [← hE' (.inl h2) o ho]
            refine LU.eq (A := mkX o ver lo n (getO ob o)) rfl (fun r hr => upd_K (.inl h2) (fun k X hk => ?_))
            unfold mkX at hr
            split at hr
            · split at hr
              · injection hr with hr; subst hr; rw [← (getO_one hk).1]; exact ho
              · cases hr
            · cases hr
        · exact LU.none _
      · exact LU.none _
    · exact LU.none _
  case makeSlice t l c' =>
    have key : ∀ z v, LU c K ob ob' (mks ob d z v) (mks ob' d z v) := fun z v => by
      cases v <;> try exact LU.none _
      simp only [mks]; exact LU.ite (fun _ => LU.new _ _ _) (fun _ => LU.none _)
    simp only [opO]
    split
    · split
      · split
        · simp only [jn]; exact key _ _
        · exact LU.none _
      · exact LU.none _
    · split
      · split
        · simp only [jn]; exact key _ _
        · exact LU.none _
      · exact LU.none _
    · exact LU.none _
  case slice t x lo hi mx =>
    have hx : c ≠ 0 → ∀ k ∈ refs (ev E sl x), K k := fun h k hk => hK h k (by simp [accs, refsL, hk])
    have key : ∀ sk, isArr P t = false → LU c K ob ob' (slc ob sk (ev E sl x) (evo E sl lo) (evo E sl hi) (evo E sl mx)) (slc ob' sk (ev E sl x) (evo E sl lo) (evo E sl hi) (evo E sl mx)) := by
      intro sk hn
      cases hm : mx with
      | none =>
        have h1 : c = 1 := by rw [← hc]; simp [memC, hn, hm]
        simp only [evo]
        exact LU.eq (slc_F hF sk _ _ (hx (by omega))) (fun r hr => by
          rcases slc_K hr with e | ⟨e, _⟩
          · rw [e]; exact Upd.nil
          · exact absurd rfl e)
      | some m =>
        have h1 : c = 2 := by rw [← hc]; simp [memC, hn, hm]
        exact LU.eq (slc_E (hE' (.inl h1)) sk _ _ _ (hx (by omega))) (fun r hr => by
          rcases slc_K hr with e | ⟨_, e⟩
          · rw [e]; exact Upd.nil
          · exact upd_K (.inl h1) (fun k X hk => hx (by omega) k (e k X hk)))
    simp only [opO]
    split
    · exact LU.none _
    · split
      · split
        · simp only [jn]
          refine LU.eq (slc_arr ..) (fun r hr => ?_)
          rcases slc_K hr with e | ⟨e, _⟩
          · rw [e]; exact Upd.nil
          · exfalso
            unfold slc at hr
            split at hr <;> first | exact absurd rfl e | cases hr | skip
            all_goals (rename_i h1 h2; first | (exact absurd h1.symm (by simp)) | skip)
            all_goals (exact e (by assumption))
        · exact LU.none _
      · rename_i e he
        split
        · exact key _ (isArr_sl he)
        · exact LU.none _
      · rename_i he
        exact key _ (by unfold isArr; rw [he])
      · exact LU.none _
  case call cl =>
    obtain ⟨callee, args, argTypes⟩ := cl
    have ha : c ≠ 0 → ∀ k ∈ refsL (evs E sl args.toList), K k := fun h k hk => hK h k hk
    cases callee with
    | invoke r m => exact LU.none _
    | value f =>
      cases f with
      | func f0 =>
        by_cases hr : E.ro f0 = true
        · have h4 : c = 4 := by rw [← hc]; simp [memC, hr]
          simp only [opO, jn, hr, if_true]
          exact cr_LU Φ (hE' (.inr h4)) (hK3 (.inr h4)).2 h4 d _ _ (ha (by omega))
        have hr : E.ro f0 = false := by simpa using hr
        simp only [opO, jn, hr, Bool.false_eq_true, if_false]
        simp only [memC, hr, Bool.or_false] at hc
        by_cases h1 : (E.raw f0 || argTypes.any (refT P 12 ·)) = true
        · rw [if_pos h1, if_pos h1]
          have h4 : c = 4 := by
            rw [← hc]
            rcases Bool.or_eq_true_iff.1 h1 with h | h
            · simp [h]
            · split
              · rfl
              · simp [h]
          exact ca_LU Φ (hE' (.inr h4)) (hK3 (.inr h4)).2 h4 d _ _ (ha (by omega))
        · rw [if_neg h1, if_neg h1]
          simp only [Bool.not_eq_true, Bool.or_eq_false_iff] at h1
          rw [h1.1, h1.2] at hc
          simp only [Bool.false_eq_true, if_false] at hc
          by_cases hn : argTypes.any (nestT P 12 ·) = true
          · rw [if_pos hn] at hc
            exact ca0_LU Φ hF (by omega) (by omega) d _ (fun _ => (hK3 (.inl hc.symm)).2) _ (ha (by omega))
          · rw [if_neg hn] at hc
            exact ca0_LU Φ hF (by omega) (by omega) d _ (fun h => absurd h hn) _ (ha (by omega))
      | tmp t =>
        have h4 : c = 4 := by rw [← hc]; simp [memC, hrov]
        simp only [opO, jn, hrov, Bool.false_eq_true, if_false]
        exact cav_LU Φ (hE' (.inr h4)) (hK3 (.inr h4)).2 h4 d _ ((hK3 (.inr h4)).1 _ (by simp [Op.operands, Call.operands])) (ha (by omega))
      | const v =>
        have h4 : c = 4 := by rw [← hc]; simp [memC, hrov]
        simp only [opO, jn, hrov, Bool.false_eq_true, if_false]
        exact cav_LU Φ (hE' (.inr h4)) (hK3 (.inr h4)).2 h4 d _ ((hK3 (.inr h4)).1 _ (by simp [Op.operands, Call.operands])) (ha (by omega))
      | global g =>
        have h4 : c = 4 := by rw [← hc]; simp [memC, hrov]
        simp only [opO, jn, hrov, Bool.false_eq_true, if_false]
        exact cav_LU Φ (hE' (.inr h4)) (hK3 (.inr h4)).2 h4 d _ ((hK3 (.inr h4)).1 _ (by simp [Op.operands, Call.operands])) (ha (by omega))
    | builtin b =>
      cases b <;> try exact LU.none _
      case append =>
        have h2 : c = 2 := by rw [← hc]; rfl
        have ha := ha (by omega)
        have hE2 := hE' (.inl h2)
        simp only [opO]
        generalize args.toList = L at ha
        rcases L with _ | ⟨x, _ | ⟨y, _ | ⟨z, L⟩⟩⟩ <;> try exact LU.none _
        have hx : ∀ k ∈ refs (ev E sl x), K k := fun k hk => ha k (by simp [evs, refsL, hk])
        have hy : ∀ k ∈ refs (ev E sl y), K k := fun k hk => ha k (by simp [evs, refsL, hk])
        generalize argTypes.toList = T
        rcases T with _ | ⟨t, _ | ⟨u, _ | ⟨z, T⟩⟩⟩ <;> try exact LU.none _
        simp only
        split
        · split
          · split
            · split
              · split
                · exact apzN_LU hE2 _ _ _ hx
                · exact apN_LU hE2 _ _ hx hy
              · split
                · exact apz_LU (.inl h2) hE2 _ _ _ hx
                · exact ap_LU (.inl h2) hE2 _ _ hx hy
            · exact LU.none _
          · exact LU.none _
        · exact LU.none _
      case copy =>
        have h2 : c = 2 := by rw [← hc]; rfl
        have ha := ha (by omega)
        have hE2 := hE' (.inl h2)
        simp only [opO]
        generalize args.toList = L at ha
        rcases L with _ | ⟨x, _ | ⟨y, _ | ⟨z, L⟩⟩⟩ <;> try exact LU.none _
        have hx : ∀ k ∈ refs (ev E sl x), K k := fun k hk => ha k (by simp [evs, refsL, hk])
        have hy : ∀ k ∈ refs (ev E sl y), K k := fun k hk => ha k (by simp [evs, refsL, hk])
        generalize argTypes.toList = T
        rcases T with _ | ⟨t, T⟩ <;> try exact LU.none _
        simp only
        split
        · split
          · simp only [jn]
            by_cases hp : ptrE P ‹TypeId› = true
            · rw [if_pos hp, if_pos hp]; exact cpN_LU (.inl h2) hE2 _ hx hy
            · rw [if_neg hp, if_neg hp]; exact cpy_LU (.inl h2) hE2 _ hx hy
          · exact LU.none _
        · exact LU.none _
theorem opA_LU (hro : True) (hrov : E.rov = false ∧ True) {o : Op} {c : Nat} (hc : memC P E o = c) (hK : c ≠ 0 → ∀ k ∈ refsL (accs E sl o), K k)
    (hK3 : c = 3 ∨ c = 4 → (∀ x ∈ o.operands, ∀ k ∈ refs (ev E sl x), K k) ∧ Clo K ob) (hF : AgF K ob ob') (hE' : c = 2 ∨ c = 4 → AgE K ob ob') :
    LU c K ob ob' (opA P E Φ sl ob d o) (opA P E Φ sl ob' d o) := by
  have hO := opO_LU (Φ := Φ) (d := d) hro hrov hc hK hK3 hF hE'
  have hP := opP_F (P := P) (o := o) (by rw [hc]; exact hK) hF
  unfold opA
  rw [← hP]
  cases opV P E sl o with
  | some v => exact LU.eq rfl (fun r hr => by injection hr with hr; subst hr; exact Upd.nil)
  | none =>
    cases opP P E sl ob o with
    | some x =>
      simp only
      refine LU.eq rfl (fun r hr => ?_)
      cases x with
      | none => cases hr
      | some v => simp only [Option.map_some, Option.some.injEq] at hr; subst hr; exact Upd.nil
    | none =>
      simp only
      generalize opO P E Φ sl ob d o = A at hO ⊢
      generalize opO P E Φ sl ob' d o = B at hO ⊢
      cases A with
      | none => exact LU.none _
      | some A => cases B with
        | none => exact hO
        | some B => exact hO
end
end
end
section
open Go
def EqX (x y : SL × OB) : Prop := (∀ t, getS x.1 t = getS y.1 t) ∧ ∀ o, getO x.2 o = getO y.2 o
theorem EqX.refl (x : SL × OB) : EqX x x := ⟨fun _ => rfl, fun _ => rfl⟩
theorem EqX.symm {x y : SL × OB} (h : EqX x y) : EqX y x := ⟨fun t => (h.1 t).symm, fun o => (h.2 o).symm⟩
theorem EqX.trans {x y z : SL × OB} (h : EqX x y) (g : EqX y z) : EqX x z := ⟨fun t => (h.1 t).trans (g.1 t), fun o => (h.2 o).trans (g.2 o)⟩
section
variable {C : Ctx} {γ : Gh} {w : World} {tmps : Array Value}
theorem St.eqX {x y : SL × OB} (S : St C γ w tmps x.1 x.2) (h : EqX x y) : St C γ w tmps y.1 y.2 :=
  { S with
    slot := fun t => by rw [← h.1 t]; exact S.slot t
    obj := fun o X hX => S.obj o X (by rw [h.2 o]; exact hX)
    dom := fun o i hi => by
      obtain ⟨X, hX⟩ := S.dom o i hi
      exact ⟨X, by rw [← h.2 o]; exact hX⟩
    unf := fun o X i b hX => S.unf o X i b (by rw [h.2 o]; exact hX) }
end
section
variable {fid : Nat → Nat} {γ : Gh} {h : Array Obj} {k : Nat}
mutual
theorem RAt_refs : ∀ (v : PV) (cs : Array Value) (off : Nat), RAt fid γ h cs off v → k ∈ refs v → ∃ i, γ.mu k = some i
  | .b _, _, _, _, H | .i _ _, _, _, _, H | .s _, _, _, _, H | .blob _ _, _, _, _, H | .np, _, _, _, H | .nf, _, _, _, H | .ub, _, _, _, H | .un, _, _, _, H | .e _, _, _, _, H | .l _ _, _, _, _, H | .ln _ _, _, _, _, H | .q _ _ _, _, _, _, H => by simp [refs] at H
  | .sl o ver lo n, cs, off, m, H => by
    simp only [RAt] at m; simp [refs] at H; subst H
    obtain ⟨i, hi, _⟩ := m; exact ⟨i, hi⟩
  | .bs o o' lo n, cs, off, m, H => by
    simp only [RAt] at m; simp [refs] at H; subst H
    obtain ⟨i, hi, _⟩ := m; exact ⟨i, hi⟩
  | .p o ver j o' bi, cs, off, m, H => by
    simp only [RAt] at m; simp [refs] at H; subst H
    obtain ⟨i, hi, _⟩ := m; exact ⟨i, hi⟩
  | .agg xs, cs, off, m, H => by
    simp only [RAt] at m; simp only [refs] at H
    obtain ⟨arr, _, _, m⟩ := m
    exact RCells_refs xs arr 0 m H
  | .tup vs, cs, off, m, H => by
    simp only [RAt] at m; simp only [refs] at H
    obtain ⟨arr, _, _, m⟩ := m
    exact RL_refs vs arr 0 m H
  | .fn g fs cap, cs, off, m, H => by
    simp only [RAt] at m; simp only [refs, List.mem_append] at H
    obtain ⟨f0, a1, a2, _, _, ⟨_, m1⟩, _, m2⟩ := m
    rcases H with H | H
    · exact RL_refs fs a1 0 m1 H
    · exact RL_refs cap a2 0 m2 H
  | .y o n k, cs, off, m, H => by
    simp only [RAt] at m; simp [refs] at H; subst H
    obtain ⟨i, hi, _⟩ := m; exact ⟨i, hi⟩
theorem RCells_refs : ∀ (l : List PV) (cs : Array Value) (off : Nat), RCells fid γ h cs off l → k ∈ refsL l → ∃ i, γ.mu k = some i
  | [], _, _, _, H => by simp [refsL] at H
  | v :: r, cs, off, m, H => by
    simp only [RCells] at m; simp only [refsL, List.mem_append] at H
    rcases H with H | H
    · exact RAt_refs v cs off m.1.2 H
    · exact RCells_refs r cs _ m.2 H
theorem RL_refs : ∀ (l : List PV) (cs : Array Value) (off : Nat), RL fid γ h cs off l → k ∈ refsL l → ∃ i, γ.mu k = some i
  | [], _, _, _, H => by simp [refsL] at H
  | v :: r, cs, off, m, H => by
    simp only [RL] at m; simp only [refsL, List.mem_append] at H
    obtain ⟨⟨x, _, m1⟩, m2⟩ := m
    rcases H with H | H
    · exact RAt_refs v _ _ m1 H
    · exact RL_refs r cs _ m2 H
end
theorem REls_refs : ∀ (l : List (List PV)) (cs : Array Value) (w off : Nat), REls fid γ h cs w off l → k ∈ refsEls l → ∃ i, γ.mu k = some i
  | [], _, _, _, _, H => by simp [refsEls] at H
  | x :: r, cs, w, off, m, H => by
    simp only [REls] at m; simp only [refsEls, List.mem_append] at H
    rcases H with H | H
    · exact RCells_refs x cs off m.2.1 H
    · exact REls_refs r cs w _ m.2.2 H
theorem ORel_refs {x : Obj'} {i : HI} (H : ORel fid γ h x i) (hk : k ∈ refsO x) : ∃ j, γ.mu k = some j := by
  obtain ⟨_, _, h3, h4⟩ := H
  unfold refsO at hk
  split at hk
  · simp at hk
  · rename_i hp
    cases hb : i.blk with
    | none =>
      simp only [hb] at h4
      have : x.els = [] := List.length_eq_zero_iff.1 (by omega)
      rw [this] at hk; simp [refsEls] at hk
    | some b =>
      simp only [hb] at h4
      obtain ⟨_, cs, _, _, h⟩ := h4
      rcases h with ⟨h, _⟩ | ⟨_, h⟩
      · exact absurd h hp
      · exact REls_refs _ _ _ _ h hk
end
section
variable {P : Program} {E : Env} {C : Ctx}
def Hyp (C : Ctx) (N : Nat) (x : SL × OB) : Prop := ∃ (a : Act) (γ : Gh) (w : World), a.tmps.size = N ∧ St C γ w a.tmps x.1 x.2
def dom (ob : OB) (k : Nat) : Prop := getO ob k ≠ none
theorem Hyp.dom {N : Nat} {x : SL × OB} (h : Hyp C N x) : Clo (dom x.2) x.2 ∧ ∀ (E : Env) (y : Operand), ∀ k ∈ refs (ev E x.1 y), dom x.2 k := by
  obtain ⟨a, γ, w, _, S⟩ := h
  have hd : ∀ k i, γ.mu k = some i → Go.Proofs.YtmhpkdcnhgmblaaDoor.dom x.2 k := fun k i hi => by
    obtain ⟨X, hX⟩ := S.dom k i hi
    unfold Go.Proofs.YtmhpkdcnhgmblaaDoor.dom; rw [hX]; simp
  refine ⟨fun k hk j hj => ?_, fun E y k hk => ?_⟩
  · cases hX : getO x.2 k with
    | none => exact absurd hX hk
    | some X =>
      rw [hX] at hj
      obtain ⟨i, _, ho⟩ := S.obj k X hX
      obtain ⟨j', hj'⟩ := ORel_refs ho hj
      exact hd _ _ hj'
  · cases y with
    | tmp t =>
      obtain ⟨i, hi⟩ := RAt_refs _ _ _ (S.slot t) hk
      exact hd _ _ hi
    | const v => exfalso; simp only [ev] at hk; unfold constP at hk; split at hk <;> simp [refs] at hk
    | global g =>
      simp only [ev] at hk
      split at hk <;> simp [refs] at hk
    | func f => simp [ev, refs, refsL] at hk
theorem Hyp.step {N : Nat} {x y : SL × OB} (h : Hyp C N x) (hE : E.fid = C.fid) (hG : E.glob = C.glob) (hro : True) (hrov : E.rov = false ∧ True) {Φ : Sem'} (hΦ : Sound P C.fid C.glob Φ) {ops : Array Oper} {o : Oper} (hd : ∀ t, o.dst = some t → t < N)
    (H : stepA P E Φ ops o x = some y) : Hyp C N y := by
  obtain ⟨a, γ, w, hs, S⟩ := h
  rcases step_ok hE hG hro hrov.1 S hΦ (by rw [hs]; exact hd) H with ⟨_, h2⟩ | ⟨_, h2⟩
  · rcases h2 with ⟨v, w', _, γ', S'⟩ | ⟨w', _, γ', S'⟩ | ⟨f, args, w', _, h⟩
    · exact ⟨_, γ', w', by rw [put_size]; exact hs, S'⟩
    · exact ⟨_, γ', w', by rw [put_size]; exact hs, S'⟩
    · obtain ⟨e, w'', _, ⟨v, _, γ', S'⟩, _⟩ := h []
      exact ⟨_, γ', w'', by rw [put_size]; exact hs, S'⟩
  · exact ⟨_, γ, w, by rw [put_size]; exact hs, h2⟩
noncomputable def stepU (P : Program) (E : Env) (Φ : Sem') (ops : Array Oper) (o : Oper) (sl : SL) (ob : OB) : Option Up :=
  match wantA ops o sl with
  | none => none
  | some true => opA P E Φ sl ob (nid o.dst) o.op
  | some false => some (.tup [], [])
variable {Φ : Sem'} {ops : Array Oper}
theorem stepA_U {o : Oper} {x y : SL × OB} : stepA P E Φ ops o x = some y ↔ ∃ r, stepU P E Φ ops o x.1 x.2 = some r ∧ y = (putS o.dst r.1 x.1, r.2 ++ x.2) := by
  unfold stepA stepU
  cases wantA ops o x.1 with
  | none => simp
  | some b => cases b with
    | true =>
      simp only [Option.map_eq_some_iff]
      exact ⟨fun ⟨r, h, e⟩ => ⟨r, h, e.symm⟩, fun ⟨r, h, e⟩ => ⟨r, h, e.symm⟩⟩
    | false =>
      simp only [Option.some.injEq]
      exact ⟨fun h => ⟨_, rfl, h.symm⟩, fun ⟨r, h, e⟩ => by subst h; exact e.symm⟩
theorem want_sl {o : Oper} {sl sl' : SL} (h : ∀ t, gSlot ops o = some t → getS sl t = getS sl' t) : wantA ops o sl = wantA ops o sl' := by
  unfold wantA
  unfold gSlot at h
  split
  · rfl
  · rename_i j w hg
    rw [hg] at h
    cases ht : (ops[j]?).bind (·.dst) with
    | none => rfl
    | some t => simp only; rw [h t ht]
theorem stepU_LU (hro : True) (hrov : E.rov = false ∧ True) {o : Oper} {c : Nat} {K : Nat → Prop} {sl sl' : SL} {ob ob' : OB} (hc : memC P E o.op = c) (hs : ∀ x ∈ o.op.operands, ev E sl x = ev E sl' x) (hg : ∀ t, gSlot ops o = some t → getS sl t = getS sl' t) (hK : c ≠ 0 → ∀ k ∈ refsL (accs E sl o.op), K k)
    (hK3 : c = 3 ∨ c = 4 → (∀ x ∈ o.op.operands, ∀ k ∈ refs (ev E sl x), K k) ∧ Clo K ob) (hF : AgF K ob ob') (hE' : c = 2 ∨ c = 4 → AgE K ob ob') :
    LU c K ob ob' (stepU P E Φ ops o sl ob) (stepU P E Φ ops o sl' ob') := by
  unfold stepU
  rw [← want_sl hg, ← opA_sl (ob := ob') hs]
  cases wantA ops o sl with
  | none => exact LU.none _
  | some b => cases b with
    | true => exact opA_LU hro hrov hc hK hK3 hF hE'
    | false => exact LU.eq rfl (fun r hr => by injection hr with hr; subst hr; exact Upd.nil)
theorem getS_put (d : Option Nat) (v : PV) (sl : SL) (t : Nat) : getS (putS d v sl) t = if d = some t then v else getS sl t := by
  cases d with
  | none => simp [putS]
  | some k => simp only [putS, getS, Option.some.injEq]
theorem stepA_resp (hro : True) (hrov : E.rov = false ∧ True) {o : Oper} {x x' y : SL × OB} (h : EqX x x') (H : stepA P E Φ ops o x = some y) : accs E x.1 o.op = accs E x'.1 o.op ∧ ∃ y', stepA P E Φ ops o x' = some y' ∧ EqX y y' := by
  have hev : ∀ z, ev E x.1 z = ev E x'.1 z := fun z => by cases z <;> simp only [ev]; exact h.1 _
  obtain ⟨r, hr, rfl⟩ := stepA_U.1 H
  have hl := stepU_LU (P := P) (Φ := Φ) (ops := ops) (K := fun _ => True) (ob := x.2) (ob' := x'.2) hro hrov (o := o) rfl (fun z _ => hev z) (fun t _ => h.1 t) (fun _ _ _ => trivial) (fun _ => ⟨fun _ _ _ _ => trivial, fun _ _ _ _ => trivial⟩) (fun k _ => sameF.of_eq (h.2 k)) (fun _ k _ => h.2 k)
  obtain ⟨g1, _⟩ := hl r hr
  refine ⟨accs_sl fun z _ => hev z, _, stepA_U.2 ⟨r, g1 (fun k _ hk => by rw [← h.2 k]; exact hk), rfl⟩, fun t => ?_, fun k => ?_⟩
  · rw [getS_put, getS_put, h.1 t]
  · rw [getO_app, getO_app, h.2 k]
theorem quiet_nil {Φ : Sem'} {sl : SL} {ob : OB} {d : Nat} {o : Op} {r : Up} (h : quiet E o = true) (H : opA P E Φ sl ob d o = some r) : r.2 = [] := by
  cases o <;> simp only [quiet, Bool.false_eq_true] at h
  case load t x =>
    simp only [opA, opV] at H
    split at H
    · rw [Option.map_eq_some_iff] at H
      obtain ⟨v, _, rfl⟩ := H
      rfl
    · simp [opO] at H
  case binOp op t x y g =>
    simp only [opA, opV] at H
    split at H
    · rw [Option.map_eq_some_iff] at H
      obtain ⟨v, _, rfl⟩ := H
      rfl
    · simp [opO] at H
  case call cl =>
    obtain ⟨callee, args, tys⟩ := cl
    cases callee with
    | invoke r m => simp at h
    | builtin b => simp at h
    | value f =>
      cases f <;> simp only [Bool.false_eq_true] at h
      simp only [opA, opV, opP, opO, h, if_true] at H
      unfold cr at H
      cases hq : ca Φ ob d (E.raw _) (E.fid _) (evs E sl args.toList) with
      | none => rw [hq] at H; simp [crX] at H
      | some q =>
        rw [hq] at H
        simp only [crX] at H
        split at H
        · injection H with H; subst H; rfl
        · cases H
theorem quietU {o : Oper} {sl : SL} {ob : OB} {r : Up} (h : quiet E o.op = true) (H : stepU P E Φ ops o sl ob = some r) : r.2 = [] := by
  unfold stepU at H
  split at H
  · cases H
  · exact quiet_nil h H
  · injection H with H; subst H; rfl
theorem stepU_sl {o : Oper} {sl sl' : SL} {ob : OB} (hs : ∀ x ∈ o.op.operands, ev E sl x = ev E sl' x) (hg : ∀ t, gSlot ops o = some t → getS sl t = getS sl' t) : stepU P E Φ ops o sl ob = stepU P E Φ ops o sl' ob := by
  unfold stepU
  rw [← want_sl hg, ← opA_sl (ob := ob) hs]
theorem clash_lt {a b : Nat} {p o : Op} (hq : ¬ (quiet E p && quiet E o) = true) (ha : memC P E p = a) (hb : memC P E o = b) (h : clash P E p o < 2) : a = 0 ∨ b = 0 ∨ ((a = 1 ∨ a = 3) ∧ (b = 1 ∨ b = 3)) ∨ (clash P E p o = 1 ∧ a ≤ 2 ∧ b ≤ 2) := by
  unfold clash at h ⊢
  rw [if_neg hq] at h ⊢
  rw [ha, hb] at h ⊢
  split at h <;> simp_all
theorem slots_spec {o p : Oper} (h : slotsOK ops o p = true) : (∀ t, p.dst = some t → t ∉ names o ∧ gSlot ops o ≠ some t) ∧ (∀ t, o.dst = some t → t ∉ names p ∧ gSlot ops p ≠ some t) := by
  unfold slotsOK at h
  simp only [Bool.and_eq_true] at h
  refine ⟨fun t ht => ?_, fun t ht => ?_⟩
  · have := h.1; rw [ht] at this; simpa using this
  · have := h.2; rw [ht] at this; simpa using this
theorem ev_put {sl : SL} {d : Option Nat} {v : PV} {z : Operand} (h : ∀ t, z = .tmp t → d ≠ some t) : ev E (putS d v sl) z = ev E sl z := by
  cases z <;> simp only [ev]
  case tmp t => rw [getS_put, if_neg (h t rfl)]
theorem apO_K1 {o ver lo n w : Nat} {gy : Bool} {ys : List (List PV)} {y : Option Obj'} {r : Up} (H : apO o ver lo n w gy ys y = some r) {k : Nat} {X : Obj'} (hX : getO r.2 k = some X) : k = o := apO_K H k X hX
theorem apE_K {d w : Nat} {gy : Bool} {ys : List (List PV)} {x : PV} {ob : OB} {r : Up} (H : apE ob d w gy ys x = some r) {k : Nat} {X : Obj'} (hX : getO r.2 k = some X) : getO ob k = none ∨ k ∈ refs x := by
  unfold apE at H
  split at H
  · split at H
    · obtain ⟨h1, rfl⟩ := newX_ok H
      rw [← (getO_one hX).1]; exact .inl h1
    · cases H
  · exact .inr (by rw [apO_K1 H hX]; simp [refs])
  · cases H
theorem apNE_K {d w : Nat} {ys : List (List PV)} {x : PV} {ob : OB} {r : Up} (H : apNE ob d w ys x = some r) {k : Nat} {X : Obj'} (hX : getO r.2 k = some X) : getO ob k = none := by
  unfold apNE at H
  split at H
  · split at H
    · obtain ⟨h1, rfl⟩ := newX_ok H
      rw [← (getO_one hX).1]; exact h1
    · cases H
  · split at H
    · obtain ⟨h1, rfl⟩ := newX_ok H
      rw [← (getO_one hX).1]; exact h1
    · cases H
  · cases H
theorem app_K {o : Oper} {sl : SL} {ob : OB} {r : Up} (ha : isApp o.op = true) (H : stepU P E Φ ops o sl ob = some r) {k : Nat} {X : Obj'} (hX : getO r.2 k = some X) : getO ob k = none ∨ k ∈ refsL ((accs E sl o.op).take 1) := by
  unfold stepU at H
  split at H
  · cases H
  · cases ho : o.op <;> rw [ho] at ha <;> try (simp [isApp] at ha; done)
    rename_i cl
    obtain ⟨callee, args, tys⟩ := cl
    cases callee <;> try (simp [isApp] at ha; done)
    rename_i b
    cases b <;> try (simp [isApp] at ha; done)
    rw [ho] at H
    simp only [opA, opV, opP, opO] at H
    simp only [accs]
    generalize args.toList = L at H ⊢
    rcases L with _ | ⟨x, _ | ⟨y, _ | ⟨z, L⟩⟩⟩ <;> try (simp at H; done)
    generalize tys.toList = T at H
    rcases T with _ | ⟨t, _ | ⟨u, _ | ⟨z, T⟩⟩⟩ <;> try (simp at H; done)
    simp only [evs, List.take_succ_cons, List.take_zero, refsL, List.append_nil]
    simp only at H
    split at H
    · rename_i q hq
      split at hq
      · split at hq
        · split at hq
          · split at hq
            · split at hq
              · injection hq with hq; subst hq
                unfold apzN at H
                split at H
                · split at H
                  · exact .inl (apNE_K H hX)
                  · cases H
                · cases H
              · injection hq with hq; subst hq
                unfold apN apNC at H
                split at H
                · exact .inl (apNE_K H hX)
                · cases H
            · split at hq
              · injection hq with hq; subst hq
                unfold apz at H
                split at H
                · split at H
                  · exact apE_K H hX
                  · cases H
                · cases H
              · injection hq with hq; subst hq
                unfold ap apC at H
                split at H
                · exact apE_K H hX
                · cases H
          · cases hq
        · cases hq
      · cases hq
    · cases H
  · injection H with H; subst H; cases hX
theorem swap_steps (hro : True) (hrov : E.rov = false ∧ True) {N : Nat} {oi oj : Oper} {x x1 x2 : SL × OB} (hy : Hyp C N x) (hsl : slotsOK ops oj oi = true) (hcl : clash P E oi.op oj.op < 2)
    (hdis : clash P E oi.op oj.op = 1 → dis (cutA E oi.op oj.op (accs E x.1 oi.op)) (cutA E oj.op oi.op (accs E x1.1 oj.op)) = some ()) (h1 : stepA P E Φ ops oi x = some x1) (h2 : stepA P E Φ ops oj x1 = some x2) :
    ∃ x1' x2', stepA P E Φ ops oj x = some x1' ∧ accs E x.1 oj.op = accs E x1.1 oj.op ∧ accs E x1'.1 oi.op = accs E x.1 oi.op ∧ stepA P E Φ ops oi x1' = some x2' ∧ EqX x2' x2 := by
  obtain ⟨hc, hev⟩ := hy.dom
  obtain ⟨s1, s2⟩ := slots_spec hsl
  obtain ⟨sl, ob⟩ := x
  obtain ⟨ri, hri, rfl⟩ := stepA_U.1 h1
  obtain ⟨rj, hrj, rfl⟩ := stepA_U.1 h2
  simp only at hri hrj hc hev hdis ⊢
  have opnd : ∀ (o : Oper) z t, z ∈ o.op.operands → z = .tmp t → t ∈ names o := fun o z t hz e => by
    subst e
    unfold names
    refine List.mem_append_right _ (List.mem_filterMap.2 ⟨.tmp t, by simpa using hz, rfl⟩)
  have ej : ∀ z ∈ oj.op.operands, ev E (putS oi.dst ri.1 sl) z = ev E sl z := fun z hz => ev_put fun t e hd => (s1 t hd).1 (opnd oj z t hz e)
  have ei : ∀ z ∈ oi.op.operands, ev E sl z = ev E (putS oj.dst rj.1 sl) z := fun z hz => (ev_put fun t e hd => (s2 t hd).1 (opnd oi z t hz e)).symm
  have gj : ∀ t, gSlot ops oj = some t → getS (putS oi.dst ri.1 sl) t = getS sl t := fun t ht => by
    rw [getS_put, if_neg (fun hd => (s1 t hd).2 ht)]
  have gi : ∀ t, gSlot ops oi = some t → getS sl t = getS (putS oj.dst rj.1 sl) t := fun t ht => by
    rw [getS_put, if_neg (fun hd => (s2 t hd).2 ht)]
  have aj : accs E (putS oi.dst ri.1 sl) oj.op = accs E sl oj.op := accs_sl ej
  have ai : accs E sl oi.op = accs E (putS oj.dst rj.1 sl) oi.op := accs_sl ei
  rw [aj] at hdis
  by_cases hq : (quiet E oi.op && quiet E oj.op) = true
  · have hq' := hq
    rw [Bool.and_eq_true] at hq'
    have qi := quietU hq'.1 hri
    have qj := quietU hq'.2 hrj
    rw [qi, List.nil_append, stepU_sl ej gj] at hrj
    have hi1 : stepU P E Φ ops oi (putS oj.dst rj.1 sl) (rj.2 ++ ob) = some ri := by
      rw [qj, List.nil_append, ← stepU_sl ei gi]; exact hri
    refine ⟨(putS oj.dst rj.1 sl, rj.2 ++ ob), (putS oi.dst ri.1 (putS oj.dst rj.1 sl), ri.2 ++ (rj.2 ++ ob)), stepA_U.2 ⟨rj, hrj, rfl⟩, aj.symm, ai.symm, stepA_U.2 ⟨ri, hi1, rfl⟩, fun t => ?_, fun k => ?_⟩
    · simp only [getS_put]
      by_cases e1 : oi.dst = some t
      · have : oj.dst ≠ some t := fun e2 => (s2 t e2).1 (by unfold names; rw [e1]; simp)
        rw [if_pos e1, if_neg this, if_pos e1]
      · rw [if_neg e1, if_neg e1]
    · rw [qi, qj]
  generalize hci : memC P E oi.op = ci
  generalize hcj : memC P E oj.op = cj
  have hcl' := clash_lt hq hci hcj hcl
  let Ki : Nat → Prop := fun k => ci ≠ 0 ∧ dom ob k ∧ (ci ≤ 2 → k ∈ refsL (accs E sl oi.op))
  let Kj : Nat → Prop := fun k => cj ≠ 0 ∧ dom ob k ∧ (cj ≤ 2 → k ∈ refsL (accs E sl oj.op))
  have accd : ∀ (o : Op), ∀ k ∈ refsL (accs E sl o), dom ob k := by
    intro o k hk
    have aux : ∀ l : List Operand, k ∈ refsL (evs E sl l) → dom ob k := by
      intro l
      induction l with
      | nil => intro h; simp [evs, refsL] at h
      | cons z r ih =>
        intro h
        simp only [evs, refsL, List.mem_append] at h
        rcases h with h | h
        · exact hev E z k h
        · exact ih h
    cases o <;> simp only [accs] at hk <;> first
      | (simp [refsL] at hk; done)
      | exact aux [_] hk
      | exact aux [_, _] hk
      | exact aux _ hk
  have excl0 : ∀ k, Ki k → Kj k → (ci = 2 ∨ ci = 4) ∨ (cj = 2 ∨ cj = 4) → ((isApp oi.op && quiet E oj.op) = true → k ∈ refsL ((accs E sl oi.op).take 1)) → ((isApp oj.op && quiet E oi.op) = true → k ∈ refsL ((accs E sl oj.op).take 1)) → False := by
    rintro k ⟨a1, a2, a3⟩ ⟨b1, b2, b3⟩ h e1 e2
    rcases hcl' with h' | h' | h' | ⟨h', h3, h4⟩
    · exact a1 h'
    · exact b1 h'
    · omega
    · have := hdis h'
      unfold dis at this
      split at this
      · cases this
      · rename_i hn
        refine hn (List.any_eq_true.2 ⟨k, ?_, ?_⟩)
        · unfold cutA
          split
          · rename_i hc; exact e1 hc
          · exact a3 h3
        · have : k ∈ refsL (cutA E oj.op oi.op (accs E sl oj.op)) := by
            unfold cutA
            split
            · rename_i hc; exact e2 hc
            · exact b3 h4
          simpa using this
  have excl : ∀ k X, getO ri.2 k = some X → Ki k → Kj k → (ci = 2 ∨ ci = 4) ∨ (cj = 2 ∨ cj = 4) → False := fun k X hX hi' hj' h => excl0 k hi' hj' h
    (fun e => (app_K (Bool.and_eq_true_iff.1 e).1 hri hX).resolve_left hi'.2.1) (fun e => by rw [quietU (Bool.and_eq_true_iff.1 e).2 hri] at hX; cases hX)
  have KiC : ci = 3 ∨ ci = 4 → (∀ z ∈ oi.op.operands, ∀ k ∈ refs (ev E sl z), Ki k) ∧ Clo Ki ob := fun h =>
    ⟨fun z _ k hk => ⟨by omega, hev E z k hk, fun _ => by omega⟩, fun k hk j hj => ⟨by omega, hc k hk.2.1 j hj, fun _ => by omega⟩⟩
  have ui : Upd ci Ki ob ri.2 := ((stepU_LU (P := P) (Φ := Φ) (ops := ops) (K := Ki) (ob := ob) (ob' := ob) hro hrov hci (fun z _ => rfl) (fun t _ => rfl) (fun h k hk => ⟨h, accd _ k hk, fun _ => hk⟩) KiC (fun k _ => sameF.refl _) (fun _ k _ => rfl)) ri hri).2
  have agj : AgF Kj (ri.2 ++ ob) ob := by
    intro k hk
    rw [getO_app]
    cases hu : getO ri.2 k with
    | none => exact sameF.refl _
    | some X =>
      rcases ui k X hu with h | ⟨h, h'⟩ | ⟨h, _, Y, hY, rfl⟩
      · exact absurd h hk.2.1
      · exact (excl k X hu h hk (.inl h')).elim
      · rw [hY]; rfl
  have agje : cj = 2 ∨ cj = 4 → AgE Kj (ri.2 ++ ob) ob := by
    intro h2 k hk
    rw [getO_app]
    cases hu : getO ri.2 k with
    | none => rfl
    | some X =>
      rcases ui k X hu with h | ⟨h, h'⟩ | ⟨h, _, Y, hY, rfl⟩
      · exact absurd h hk.2.1
      · exact (excl k X hu h hk (.inl h')).elim
      · exact (excl k _ hu h hk (.inr h2)).elim
  have hj := (stepU_LU (P := P) (Φ := Φ) (ops := ops) (K := Kj) (ob := ri.2 ++ ob) (ob' := ob) hro hrov hcj ej gj
    (fun h k hk => by rw [aj] at hk; exact ⟨h, accd _ k hk, fun _ => hk⟩)
    (fun h => ⟨fun z hz k hk => by rw [ej z hz] at hk; exact ⟨by omega, hev E z k hk, fun _ => by omega⟩, fun k hk j hj => by
      rw [refsX_F (agj k hk)] at hj
      exact ⟨by omega, hc k hk.2.1 j hj, fun _ => by omega⟩⟩) agj agje) rj hrj
  have exclj : ∀ k X, getO rj.2 k = some X → Ki k → Kj k → (ci = 2 ∨ ci = 4) ∨ (cj = 2 ∨ cj = 4) → False := fun k X hX hi' hj' h => excl0 k hi' hj' h
    (fun e => by rw [quietU (Bool.and_eq_true_iff.1 e).2 hrj] at hX; cases hX) (fun e => by
      rcases app_K (Bool.and_eq_true_iff.1 e).1 hrj hX with h' | h'
      · exact absurd h' (fun h' => hi'.2.1 (by
          rw [getO_app] at h'
          split at h'
          · cases h'
          · exact h'))
      · rw [aj] at h'; exact h')
  have hj1 := hj.1 (fun k _ hk => by
    rw [getO_app] at hk
    split at hk
    · cases hk
    · exact hk)
  have uj := hj.2
  have app1 : ∀ k, getO (ri.2 ++ ob) k = none → getO ri.2 k = none ∧ getO ob k = none := fun k hk => by
    rw [getO_app] at hk
    split at hk
    · cases hk
    · rename_i h; exact ⟨h, hk⟩
  have agi : AgF Ki ob (rj.2 ++ ob) := by
    intro k hk
    rw [getO_app]
    cases hu : getO rj.2 k with
    | none => exact sameF.refl _
    | some X =>
      rcases uj k X hu with h | ⟨h, h'⟩ | ⟨h, _, Y, hY, rfl⟩
      · exact absurd (app1 k h).2 hk.2.1
      · exact (exclj k X hu hk h (.inr h')).elim
      · have := agj k h
        rw [hY] at this
        unfold sameF at this ⊢
        rw [← this]; rfl
  have agie : ci = 2 ∨ ci = 4 → AgE Ki ob (rj.2 ++ ob) := by
    intro h2 k hk
    rw [getO_app]
    cases hu : getO rj.2 k with
    | none => rfl
    | some X =>
      rcases uj k X hu with h | ⟨h, h'⟩ | ⟨h, _, Y, hY, rfl⟩
      · exact absurd (app1 k h).2 hk.2.1
      · exact (exclj k X hu hk h (.inr h')).elim
      · exact (exclj k _ hu hk h (.inl h2)).elim
  have hi := (stepU_LU (P := P) (Φ := Φ) (ops := ops) (K := Ki) (ob := ob) (ob' := rj.2 ++ ob) hro hrov hci ei gi (fun h k hk => ⟨h, accd _ k hk, fun _ => hk⟩) KiC agi agie) ri hri
  have hi1 := hi.1 (fun k hk hn => by
    rw [getO_app]
    cases hu : getO rj.2 k with
    | none => exact hn
    | some X =>
      rcases uj k X hu with h | ⟨h, _⟩ | ⟨h, _⟩
      · exact absurd (app1 k h).1 hk
      · exact absurd hn h.2.1
      · exact absurd hn h.2.1)
  refine ⟨(putS oj.dst rj.1 sl, rj.2 ++ ob), (putS oi.dst ri.1 (putS oj.dst rj.1 sl), ri.2 ++ (rj.2 ++ ob)), stepA_U.2 ⟨rj, hj1, rfl⟩, aj.symm, ai.symm, stepA_U.2 ⟨ri, hi1, rfl⟩, fun t => ?_, fun k => ?_⟩
  · simp only [getS_put]
    by_cases e1 : oi.dst = some t
    · have : oj.dst ≠ some t := fun e2 => (s2 t e2).1 (by unfold names; rw [e1]; simp)
      rw [if_pos e1, if_neg this, if_pos e1]
    · rw [if_neg e1, if_neg e1]
  · simp only [getO_app]
    cases hu : getO ri.2 k with
    | none => simp only
    | some X =>
      cases hv : getO rj.2 k with
      | none => simp only
      | some Y =>
        simp only [Option.some.injEq]
        rcases uj k Y hv with h | ⟨h, h'⟩ | ⟨h, hcj', Z, hZ, rfl⟩
        · have := (app1 k h).1; rw [hu] at this; cases this
        · rcases ui k X hu with g | ⟨g, _⟩ | ⟨g, _⟩
          · exact absurd g h.2.1
          · exact (excl k X hu g h (.inr h')).elim
          · exact (excl k X hu g h (.inr h')).elim
        · rw [getO_app_some hu] at hZ
          injection hZ with hZ; subst hZ
          rcases ui k X hu with g | ⟨g, g'⟩ | ⟨g, _, W, _, rfl⟩
          · exact absurd g h.2.1
          · exact (excl k _ hu g h (.inl g')).elim
          · rfl
end
end
end Go.Proofs.YtmhpkdcnhgmblaaDoor
