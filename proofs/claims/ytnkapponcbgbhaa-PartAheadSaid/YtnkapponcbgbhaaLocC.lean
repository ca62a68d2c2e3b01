import Derived.Test.YtnkapponcbgbhaaLocB
set_option linter.all false
namespace Go.Proofs.Ytnkapponcbgbhaa
open Go
section
variable {P : Program} {E : Env} {Φ : Sem'} {sl sl' : SL} {ob ob' : OB} {d : Nat}
theorem evs_sl {l : List Operand} (h : ∀ x ∈ l, ev E sl x = ev E sl' x) : evs E sl l = evs E sl' l := by
  induction l with
  | nil => rfl
  | cons x r ih => simp only [evs]; rw [h x (by simp), ih (fun y hy => h y (List.mem_cons_of_mem _ hy))]
theorem evo_sl {x : Option Operand} (h : ∀ y, x = some y → ev E sl y = ev E sl' y) : evo E sl x = evo E sl' x := by
  cases x with
  | none => rfl
  | some y => simp only [evo]; rw [h y rfl]
theorem evps_sl {off : Nat → Option (Nat × Nat)} {l : List (Nat × Operand)} (h : ∀ x ∈ l, ev E sl x.2 = ev E sl' x.2) : evps E sl off l = evps E sl' off l := by
  induction l with
  | nil => rfl
  | cons x r ih => simp only [evps]; rw [h x (by simp), ih (fun y hy => h y (List.mem_cons_of_mem _ hy))]
theorem opA_sl {o : Op} (h : ∀ x ∈ o.operands, ev E sl x = ev E sl' x) : opA P E Φ sl ob d o = opA P E Φ sl' ob d o := by
  cases o <;> simp only [Op.operands] at h <;> try rfl
  case move x => simp only [opA, opV]; rw [h x (by simp)]
  case assign x => simp only [opA, opV]; rw [h x (by simp)]
  case pick c a b => simp only [opA, opV, opP]; rw [h c (by simp), h a (by simp), h b (by simp)]
  case box t x => simp only [opA, opV, opP, opO]; rw [h x (by simp)]
  case build t ps =>
    simp only [opA, opV, opP]
    have he : ∀ off, evps E sl off ps.toList = evps E sl' off ps.toList := fun off => evps_sl fun x hx => h x.2 (by simp; exact ⟨x.1, by simpa using hx⟩)
    simp only [he, opO]
  case buildSlice t n ps =>
    simp only [opA, opV, opP, opO]
    have he : evs E sl (ps.toList.map (·.2)) = evs E sl' (ps.toList.map (·.2)) := evs_sl fun x hx => h x (by simpa using hx)
    rw [he]
  case load t x => simp only [opA, opV, opP, opO]; rw [h x (by simp)]
  case store t x v => simp only [opA, opV, opP, opO]; rw [h x (by simp), h v (by simp)]
  case nilCheck x => simp only [opA, opV, opP]; rw [h x (by simp)]
  case binOp op t x y yt =>
    have hx := h x (by simp)
    have hy := h y (by simp)
    have hq : ∀ neg q, eqSt P E neg t x y sl q = eqSt P E neg t x y sl' q := fun neg q => by cases q <;> simp only [eqSt, hx, hy]
    simp only [opA, opV, opP, opO, eqP, hq]; rw [hx, hy]
  case unOp op t x => simp only [opA, opV, opP]; rw [h x (by simp)]
  case convert s t x => simp only [opA, opV, opP, opO]; rw [h x (by simp)]
  case makeFunc f a b =>
    have ha : evs E sl a.toList = evs E sl' a.toList := evs_sl fun x hx => h x (by simp; exact .inl (by simpa using hx))
    have hb : evs E sl b.toList = evs E sl' b.toList := evs_sl fun x hx => h x (by simp; exact .inr (by simpa using hx))
    cases f <;> simp only [opA, opV, opP, opO]
    rw [ha, hb]
  case makeSlice t l c =>
    have hl := h l (by simp)
    simp only [opA, opV, opP, opO]; rw [hl]
  case slice t x lo hi mx =>
    have h0 := h x (by simp)
    have h1 : evo E sl lo = evo E sl' lo := evo_sl fun y e => h y (by subst e; simp)
    have h2 : evo E sl hi = evo E sl' hi := evo_sl fun y e => h y (by subst e; simp)
    have h3 : evo E sl mx = evo E sl' mx := evo_sl fun y e => h y (by subst e; simp)
    simp only [opA, opV, opP, opO]; rw [h0, h1, h2, h3]
  case fieldAddr t x f => simp only [opA, opV, opP, opO]; rw [h x (by simp)]
  case field t x f => simp only [opA, opV, opP, opO]; rw [h x (by simp)]
  case indexAddr t x i => simp only [opA, opV, opP, opO]; rw [h x (by simp), h i (by simp)]
  case index t x i => simp only [opA, opV, opP, opO]; rw [h x (by simp), h i (by simp)]
  case extract x k => simp only [opA, opV, opP]; rw [h x (by simp)]
  case makeMap t r => cases r <;> rfl
  case lookup t x i c => cases c <;> simp only [opA, opV, opP, opO]; rw [h x (by simp), h i (by simp)]
  case insert t m k v => simp only [opA, opV, opP, opO]; rw [h m (by simp), h k (by simp), h v (by simp)]
  case mapUpdate t m k v => simp only [opA, opV, opP, opO]; rw [h m (by simp), h k (by simp), h v (by simp)]
  case call c =>
    obtain ⟨callee, args, argTypes⟩ := c
    have ha : ∀ x ∈ args.toList, ev E sl x = ev E sl' x := fun x hx => h x (by simp only [Call.operands, Array.mem_append]; exact .inr (by simpa using hx))
    have hs : evs E sl args.toList = evs E sl' args.toList := evs_sl ha
    cases callee with
    | invoke r m => rfl
    | value f =>
      have hf : ev E sl f = ev E sl' f := h f (by simp [Call.operands])
      cases f with
      | func f0 => simp only [opA, opV, opP, opO]; rw [hs]
      | tmp t => simp only [opA, opV, opP, opO]; rw [hs, hf]
      | const v => simp only [opA, opV, opP, opO]; rw [hs, hf]
      | global g => simp only [opA, opV, opP, opO]; rw [hs, hf]
    | builtin b =>
      clear hs h
      cases b <;> simp only [opA, opV, opP, opO]
      all_goals (try rfl)
      all_goals (generalize args.toList = L at ha ⊢)
      all_goals (rcases L with _ | ⟨x, _ | ⟨y, _ | ⟨z, L⟩⟩⟩)
      all_goals (try rfl)
      all_goals (generalize argTypes.toList = T)
      all_goals (rcases T with _ | ⟨t, _ | ⟨u, _ | ⟨s, T⟩⟩⟩)
      all_goals (try rfl)
      all_goals (have hx := ha x (by simp))
      all_goals (try (have hy := ha y (by simp)))
      all_goals (try simp only [hx])
      all_goals (try simp only [hy])
theorem accs_sl {o : Op} (h : ∀ x ∈ o.operands, ev E sl x = ev E sl' x) : accs E sl o = accs E sl' o := by
  cases o <;> simp only [Op.operands] at h <;> try rfl
  case load t x => simp only [accs]; rw [h x (by simp)]
  case store t x v => simp only [accs]; rw [h x (by simp), h v (by simp)]
  case slice t x lo hi mx => simp only [accs]; rw [h x (by simp)]
  case indexAddr t x i => simp only [accs]; rw [h x (by simp)]
  case lookup t x i c => simp only [accs]; rw [h x (by simp)]
  case insert t m k v => simp only [accs]; rw [h m (by simp), h v (by simp)]
  case mapUpdate t m k v => simp only [accs]; rw [h m (by simp), h v (by simp)]
  case convert s t x => simp only [accs]; rw [h x (by simp)]
  case binOp op t x y yt => simp only [accs]; rw [h x (by simp), h y (by simp)]
  case buildSlice t n ps =>
    simp only [accs]
    exact evs_sl fun x hx => h x (by simpa using hx)
  case call c =>
    obtain ⟨callee, args, argTypes⟩ := c
    simp only [accs]
    exact evs_sl fun x hx => h x (by simp only [Call.operands, Array.mem_append]; exact .inr (by simpa using hx))
section
variable {K : Nat → Prop}
theorem isArr_sl {t : TypeId} {e : TypeId} (h : P.underlying t = some (.slice e)) : isArr P t = false := by unfold isArr; rw [h]
theorem opP_F {o : Op} (hK : memC P E o ≠ 0 → ∀ k ∈ refsL (accs E sl o), K k) (hF : AgF K ob ob') : opP P E sl ob o = opP P E sl ob' o := by
  cases o <;> try rfl
  case load t x =>
    have hx : ∀ k ∈ refs (ev E sl x), K k := by simpa [memC, accs, refsL] using hK
    simp only [opP]; rw [lN_F hF _ hx, l1_F hF hx]
  case binOp op t x y yt =>
    have hx : ∀ k ∈ refs (ev E sl x), K k := fun k hk => hK (by simp [memC]) k (by simp [accs, refsL, hk])
    have hy : ∀ k ∈ refs (ev E sl y), K k := fun k hk => hK (by simp [memC]) k (by simp [accs, refsL, hk])
    simp only [opP, eqP, eqN]
    rw [eNs_F hF false hx, eNs_F hF true hx, eNs_F hF false hy, eNs_F hF true hy]
  case convert s t x =>
    have hx : ∀ k ∈ refs (ev E sl x), K k := fun k hk => hK (by simp only [memC]; split <;> simp) k (by simp [accs, refsL, hk])
    simp only [opP]; rw [b2s_F hF hx]
  case lookup t x i c =>
    have hx : ∀ k ∈ refs (ev E sl x), K k := by simpa [memC, accs, refsL] using hK
    cases c <;> simp only [opP, mpl_F hF _ _ _ hx]
  case indexAddr t x i =>
    simp only [opP]
    split
    · rename_i e he
      have hx : ∀ k ∈ refs (ev E sl x), K k := by simpa [memC, accs, refsL, isArr_sl he] using hK
      rw [xS_F hF _ hx]
    · rfl
    · rfl
  case call c =>
    obtain ⟨callee, args, argTypes⟩ := c
    cases callee with
    | invoke r m => rfl
    | value f => cases f <;> rfl
    | builtin b =>
      cases b <;> try rfl
      case cap =>
        have hx : ∀ k ∈ refsL (evs E sl args.toList), K k := by simpa [memC, accs] using hK
        simp only [opP]
        generalize args.toList = L at hx
        rcases L with _ | ⟨x, _ | ⟨y, L⟩⟩ <;> try rfl
        generalize argTypes.toList = T
        rcases T with _ | ⟨t, _ | ⟨u, T⟩⟩ <;> try rfl
        simp only [cp_F hF (v := ev E sl x) (fun k hk => hx k (by simp [evs, refsL, hk]))]
def jn : Option (Option Up) → Option Up
  | some x => x
  | none => none
theorem opO_LU (hro : True) (hrov : E.rov = false ∧ True) {o : Op} {c : Nat} (hc : memC P E o = c) (hK : c ≠ 0 → ∀ k ∈ refsL (accs E sl o), K k)
    (hK3 : c = 3 ∨ c = 4 → (∀ x ∈ o.operands, ∀ k ∈ refs (ev E sl x), K k) ∧ Clo K ob) (hF : AgF K ob ob') (hE' : c = 2 ∨ c = 4 → AgE K ob ob') :
    LU c K ob ob' (jn (opO P E Φ sl ob d o)) (jn (opO P E Φ sl ob' d o)) := by
  cases o <;> try exact LU.none _
  case alloc t =>
    simp only [opO]
    split
    · exact LU.new _ _ _
    · exact LU.none _
  case box t x => simp only [opO, jn, bx, al]; exact LU.ite (fun _ => LU.new _ _ _) (fun _ => LU.none _)
  case buildSlice t n ps =>
    simp only [opO]
    split
    · split
      · split
        · simp only [jn]
          by_cases hpb : E.pb = true
          · rw [if_pos hpb, if_pos hpb]
            have h2 : c = 2 := by rw [← hc]; simp [memC, hpb]
            exact bldP_LU (.inl h2) (hE' (.inl h2)) _ _ (fun k hk => hK (by omega) k hk)
          rw [if_neg hpb, if_neg hpb]
          cases evs E sl (ps.toList.map (·.2)) with
          | nil => exact LU.eq rfl (fun r hr => by simp only [bldS, Option.some.injEq] at hr; subst hr; exact Upd.nil)
          | cons v r => simp only [bldS]; exact LU.ite (fun _ => LU.new _ _ _) (fun _ => LU.none _)
        · exact LU.none _
      · exact LU.none _
    · exact LU.none _
  case store t x v =>
    have h2 : c = 2 := hc.symm
    have hx : ∀ k ∈ refs (ev E sl x), K k := fun k hk => hK (by omega) k (by simp [accs, refsL, hk])
    have hv : ∀ k ∈ refs (ev E sl v), K k := fun k hk => hK (by omega) k (by simp [accs, refsL, hk])
    simp only [opO]
    split
    · exact LU.eq (st_E (hE' (.inl h2)) _ hx hv) (fun r hr => upd_K (.inl h2) (fun k X hk => (st_K hr k X hk).elim (hx k) (hv k)))
    · exact LU.none _
  case makeMap t r =>
    cases r with
    | none =>
      simp only [opO]
      split
      · exact LU.new _ _ _
      · exact LU.none _
    | some r => exact LU.none _
  case insert t m k v =>
    have h2 : c = 2 := hc.symm
    have hx : ∀ k ∈ refs (ev E sl m), K k := fun j hj => hK (by omega) j (by simp [accs, refsL, hj])
    simp only [opO]
    split
    · exact mpu_LU (.inl h2) (hE' (.inl h2)) _ _ _ hx
    · exact LU.none _
  case mapUpdate t m k v =>
    have h2 : c = 2 := hc.symm
    have hx : ∀ k ∈ refs (ev E sl m), K k := fun j hj => hK (by omega) j (by simp [accs, refsL, hj])
    simp only [opO]
    split
    · exact mpu_LU (.inl h2) (hE' (.inl h2)) _ _ _ hx
    · exact LU.none _
  case convert s t x =>
    simp only [opO]
    split
    · split
      · simp only [jn]
        cases ev E sl x <;> try exact LU.none _
        exact LU.new _ _ _
      · exact LU.none _
    · rename_i e0 e hs ht
      split
      · split
        · have h2 : c = 2 := by rw [← hc]; simp [memC, isSl, hs, ht]
          have hx : ∀ k ∈ refs (ev E sl x), K k := fun k hk => hK (by omega) k (by simp [accs, refsL, hk])
          simp only [jn]
          generalize ev E sl x = v at hx
          cases v <;> try exact LU.none _
          case sl o ver lo n =>
            have ho : K o := hx o (by simp [refs])
            simp only [mkS]
            rw [← hE' (.inl h2) o ho]
            refine LU.eq (A := mkX o ver lo n (getO ob o)) rfl (fun r hr => upd_K (.inl h2) (fun k X hk => ?_))
            unfold mkX at hr
            split at hr
            · split at hr
              · injection hr with hr; subst hr; rw [← (getO_one hk).1]; exact ho
              · cases hr
            · cases hr
        · exact LU.none _
      · exact LU.none _
    · exact LU.none _
  case makeSlice t l c' =>
    have key : ∀ z v, LU c K ob ob' (mks ob d z v) (mks ob' d z v) := fun z v => by
      cases v <;> try exact LU.none _
      simp only [mks]; exact LU.ite (fun _ => LU.new _ _ _) (fun _ => LU.none _)
    simp only [opO]
    split
    · split
      · split
        · simp only [jn]; exact key _ _
        · exact LU.none _
      · exact LU.none _
    · split
      · split
        · simp only [jn]; exact key _ _
        · exact LU.none _
      · exact LU.none _
    · exact LU.none _
  case slice t x lo hi mx =>
    have hx : c ≠ 0 → ∀ k ∈ refs (ev E sl x), K k := fun h k hk => hK h k (by simp [accs, refsL, hk])
    have key : ∀ sk, isArr P t = false → LU c K ob ob' (slc ob sk (ev E sl x) (evo E sl lo) (evo E sl hi) (evo E sl mx)) (slc ob' sk (ev E sl x) (evo E sl lo) (evo E sl hi) (evo E sl mx)) := by
      intro sk hn
      cases hm : mx with
      | none =>
        have h1 : c = 1 := by rw [← hc]; simp [memC, hn, hm]
        simp only [evo]
        exact LU.eq (slc_F hF sk _ _ (hx (by omega))) (fun r hr => by
          rcases slc_K hr with e | ⟨e, _⟩
          · rw [e]; exact Upd.nil
          · exact absurd rfl e)
      | some m =>
        have h1 : c = 2 := by rw [← hc]; simp [memC, hn, hm]
        exact LU.eq (slc_E (hE' (.inl h1)) sk _ _ _ (hx (by omega))) (fun r hr => by
          rcases slc_K hr with e | ⟨_, e⟩
          · rw [e]; exact Upd.nil
          · exact upd_K (.inl h1) (fun k X hk => hx (by omega) k (e k X hk)))
    simp only [opO]
    split
    · exact LU.none _
    · split
      · split
        · simp only [jn]
          refine LU.eq (slc_arr ..) (fun r hr => ?_)
          rcases slc_K hr with e | ⟨e, _⟩
          · rw [e]; exact Upd.nil
          · exfalso
            unfold slc at hr
            split at hr <;> first | exact absurd rfl e | cases hr | skip
            all_goals (rename_i h1 h2; first | (exact absurd h1.symm (by simp)) | skip)
            all_goals (exact e (by assumption))
        · exact LU.none _
      · rename_i e he
        split
        · exact key _ (isArr_sl he)
        · exact LU.none _
      · rename_i he
        exact key _ (by unfold isArr; rw [he])
      · exact LU.none _
  case call cl =>
    obtain ⟨callee, args, argTypes⟩ := cl
    have ha : c ≠ 0 → ∀ k ∈ refsL (evs E sl args.toList), K k := fun h k hk => hK h k hk
    cases callee with
    | invoke r m => exact LU.none _
    | value f =>
      cases f with
      | func f0 =>
        by_cases hr : E.ro f0 = true
        · have h4 : c = 4 := by rw [← hc]; simp [memC, hr]
          simp only [opO, jn, hr, if_true]
          exact cr_LU Φ (hE' (.inr h4)) (hK3 (.inr h4)).2 h4 d _ _ (ha (by omega))
        have hr : E.ro f0 = false := by simpa using hr
        simp only [opO, jn, hr, Bool.false_eq_true, if_false]
        simp only [memC, hr, Bool.or_false] at hc
        by_cases h1 : (E.raw f0 || argTypes.any (refT P 12 ·)) = true
        · rw [if_pos h1, if_pos h1]
          have h4 : c = 4 := by
            rw [← hc]
            rcases Bool.or_eq_true_iff.1 h1 with h | h
            · simp [h]
            · split
              · rfl
              · simp [h]
          exact ca_LU Φ (hE' (.inr h4)) (hK3 (.inr h4)).2 h4 d _ _ (ha (by omega))
        · rw [if_neg h1, if_neg h1]
          simp only [Bool.not_eq_true, Bool.or_eq_false_iff] at h1
          rw [h1.1, h1.2] at hc
          simp only [Bool.false_eq_true, if_false] at hc
          by_cases hn : argTypes.any (nestT P 12 ·) = true
          · rw [if_pos hn] at hc
            exact ca0_LU Φ hF (by omega) (by omega) d _ (fun _ => (hK3 (.inl hc.symm)).2) _ (ha (by omega))
          · rw [if_neg hn] at hc
            exact ca0_LU Φ hF (by omega) (by omega) d _ (fun h => absurd h hn) _ (ha (by omega))
      | tmp t =>
        have h4 : c = 4 := by rw [← hc]; simp [memC, hrov]
        simp only [opO, jn, hrov, Bool.false_eq_true, if_false]
        exact cav_LU Φ (hE' (.inr h4)) (hK3 (.inr h4)).2 h4 d _ ((hK3 (.inr h4)).1 _ (by simp [Op.operands, Call.operands])) (ha (by omega))
      | const v =>
        have h4 : c = 4 := by rw [← hc]; simp [memC, hrov]
        simp only [opO, jn, hrov, Bool.false_eq_true, if_false]
        exact cav_LU Φ (hE' (.inr h4)) (hK3 (.inr h4)).2 h4 d _ ((hK3 (.inr h4)).1 _ (by simp [Op.operands, Call.operands])) (ha (by omega))
      | global g =>
        have h4 : c = 4 := by rw [← hc]; simp [memC, hrov]
        simp only [opO, jn, hrov, Bool.false_eq_true, if_false]
        exact cav_LU Φ (hE' (.inr h4)) (hK3 (.inr h4)).2 h4 d _ ((hK3 (.inr h4)).1 _ (by simp [Op.operands, Call.operands])) (ha (by omega))
    | builtin b =>
      cases b <;> try exact LU.none _
      case append =>
        have h2 : c = 2 := by rw [← hc]; rfl
        have ha := ha (by omega)
        have hE2 := hE' (.inl h2)
        simp only [opO]
        generalize args.toList = L at ha
        rcases L with _ | ⟨x, _ | ⟨y, _ | ⟨z, L⟩⟩⟩ <;> try exact LU.none _
        have hx : ∀ k ∈ refs (ev E sl x), K k := fun k hk => ha k (by simp [evs, refsL, hk])
        have hy : ∀ k ∈ refs (ev E sl y), K k := fun k hk => ha k (by simp [evs, refsL, hk])
        generalize argTypes.toList = T
        rcases T with _ | ⟨t, _ | ⟨u, _ | ⟨z, T⟩⟩⟩ <;> try exact LU.none _
        simp only
        split
        · split
          · split
            · split
              · split
                · exact apzN_LU hE2 _ _ _ hx
                · exact apN_LU hE2 _ _ hx hy
              · split
                · exact apz_LU (.inl h2) hE2 _ _ _ hx
                · exact ap_LU (.inl h2) hE2 _ _ hx hy
            · exact LU.none _
          · exact LU.none _
        · exact LU.none _
      case clear =>
        have h2 : c = 2 := by rw [← hc]; rfl
        have ha := ha (by omega)
        have hE2 := hE' (.inl h2)
        simp only [opO]
        generalize args.toList = L at ha
        rcases L with _ | ⟨x, _ | ⟨y, L⟩⟩ <;> try exact LU.none _
        have hx : ∀ k ∈ refs (ev E sl x), K k := fun k hk => ha k (by simp [evs, refsL, hk])
        generalize argTypes.toList = T
        rcases T with _ | ⟨t, _ | ⟨u, T⟩⟩ <;> try exact LU.none _
        simp only
        split
        · exact mpc_LU (.inl h2) hE2 hx
        · exact LU.none _
      case copy =>
        have h2 : c = 2 := by rw [← hc]; rfl
        have ha := ha (by omega)
        have hE2 := hE' (.inl h2)
        simp only [opO]
        generalize args.toList = L at ha
        rcases L with _ | ⟨x, _ | ⟨y, _ | ⟨z, L⟩⟩⟩ <;> try exact LU.none _
        have hx : ∀ k ∈ refs (ev E sl x), K k := fun k hk => ha k (by simp [evs, refsL, hk])
        have hy : ∀ k ∈ refs (ev E sl y), K k := fun k hk => ha k (by simp [evs, refsL, hk])
        generalize argTypes.toList = T
        rcases T with _ | ⟨t, T⟩ <;> try exact LU.none _
        simp only
        split
        · split
          · simp only [jn]
            by_cases hp : ptrE P ‹TypeId› = true
            · rw [if_pos hp, if_pos hp]; exact cpN_LU (.inl h2) hE2 _ hx hy
            · rw [if_neg hp, if_neg hp]; exact cpy_LU (.inl h2) hE2 _ hx hy
          · exact LU.none _
        · exact LU.none _
theorem opA_LU (hro : True) (hrov : E.rov = false ∧ True) {o : Op} {c : Nat} (hc : memC P E o = c) (hK : c ≠ 0 → ∀ k ∈ refsL (accs E sl o), K k)
    (hK3 : c = 3 ∨ c = 4 → (∀ x ∈ o.operands, ∀ k ∈ refs (ev E sl x), K k) ∧ Clo K ob) (hF : AgF K ob ob') (hE' : c = 2 ∨ c = 4 → AgE K ob ob') :
    LU c K ob ob' (opA P E Φ sl ob d o) (opA P E Φ sl ob' d o) := by
  have hO := opO_LU (Φ := Φ) (d := d) hro hrov hc hK hK3 hF hE'
  have hP := opP_F (P := P) (o := o) (by rw [hc]; exact hK) hF
  unfold opA
  rw [← hP]
  cases opV P E sl o with
  | some v => exact LU.eq rfl (fun r hr => by injection hr with hr; subst hr; exact Upd.nil)
  | none =>
    cases opP P E sl ob o with
    | some x =>
      simp only
      refine LU.eq rfl (fun r hr => ?_)
      cases x with
      | none => cases hr
      | some v => simp only [Option.map_some, Option.some.injEq] at hr; subst hr; exact Upd.nil
    | none =>
      simp only
      generalize opO P E Φ sl ob d o = A at hO ⊢
      generalize opO P E Φ sl ob' d o = B at hO ⊢
      cases A with
      | none => exact LU.none _
      | some A => cases B with
        | none => exact hO
        | some B => exact hO
end
end
end Go.Proofs.Ytnkapponcbgbhaa
