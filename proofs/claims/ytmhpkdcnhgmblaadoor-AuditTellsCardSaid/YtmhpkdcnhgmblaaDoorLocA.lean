import Derived.Test.YtmhpkdcnhgmblaaDoorCallC
set_option linter.all false
namespace Go.Proofs.YtmhpkdcnhgmblaaDoor
open Go
theorem refsL_app : ∀ (a b : List PV), refsL (a ++ b) = refsL a ++ refsL b
  | [], b => rfl
  | v :: r, b => by simp only [List.cons_append, refsL, refsL_app r b, List.append_assoc]
def frz1 (x : Obj') : Obj' := { x with fro := true }
def sameF (a b : Option Obj') : Prop := a.map frz1 = b.map frz1
theorem sameF.refl (a : Option Obj') : sameF a a := rfl
theorem sameF.of_eq {a b : Option Obj'} (h : a = b) : sameF a b := by rw [h]; rfl
theorem sameF_cases {a b : Option Obj'} (h : sameF a b) : (a = none ∧ b = none) ∨ ∃ x y, a = some x ∧ b = some y ∧ x.els = y.els ∧ x.w = y.w ∧ x.pu = y.pu ∧ x.g = y.g ∧ x.cap = y.cap ∧ x.ver = y.ver := by
  cases a with
  | none => cases b with
    | none => exact .inl ⟨rfl, rfl⟩
    | some y => simp [sameF] at h
  | some x => cases b with
    | none => simp [sameF] at h
    | some y =>
      simp only [sameF, Option.map_some, Option.some.injEq, frz1, Obj'.mk.injEq] at h
      exact .inr ⟨x, y, rfl, rfl, h.1, h.2.1, h.2.2.1, h.2.2.2.1, h.2.2.2.2.1, h.2.2.2.2.2.1⟩
section
variable {a b : Option Obj'} (h : sameF a b)
include h
theorem atO_F (ver i off : Nat) : atO a ver i off = atO b ver i off := by
  rcases sameF_cases h with ⟨rfl, rfl⟩ | ⟨x, y, rfl, rfl, h1, h2, h3, h4, h5, h6⟩
  · rfl
  · simp only [atO, h1, h3, h4, h6]
theorem contX_F (ver lo n : Nat) : contX a ver lo n = contX b ver lo n := by
  rcases sameF_cases h with ⟨rfl, rfl⟩ | ⟨x, y, rfl, rfl, h1, h2, h3, h4, h5, h6⟩
  · rfl
  · simp only [contX, h1, h3, h4, h6]
theorem xSO_F (o ver lo n w : Nat) (i : Int) : xSO o ver lo n w i a = xSO o ver lo n w i b := by
  rcases sameF_cases h with ⟨rfl, rfl⟩ | ⟨x, y, rfl, rfl, h1, h2, h3, h4, h5, h6⟩
  · rfl
  · simp only [xSO, h1, h2, h6]
theorem eNX_F (neg : Bool) (ver lo n : Nat) : eNX neg ver lo n a = eNX neg ver lo n b := by
  rcases sameF_cases h with ⟨rfl, rfl⟩ | ⟨x, y, rfl, rfl, h1, h2, h3, h4, h5, h6⟩
  · rfl
  · simp only [eNX, h1, h6]
theorem cpO_F (ver lo : Nat) : cpO ver lo a = cpO ver lo b := by
  rcases sameF_cases h with ⟨rfl, rfl⟩ | ⟨x, y, rfl, rfl, h1, h2, h3, h4, h5, h6⟩
  · rfl
  · simp only [cpO, h5, h6]
theorem slO_F (o ver lo w : Nat) (l r : Option Int) : slO o ver lo w a l r none = slO o ver lo w b l r none := by
  rcases sameF_cases h with ⟨rfl, rfl⟩ | ⟨x, y, rfl, rfl, h1, h2, h3, h4, h5, h6⟩
  · cases l <;> cases r <;> rfl
  · cases l <;> cases r <;> simp only [slO, h1, h2, h6]
theorem refsX_F : refsX a = refsX b := by
  rcases sameF_cases h with ⟨rfl, rfl⟩ | ⟨x, y, rfl, rfl, h1, h2, h3, h4, h5, h6⟩
  · rfl
  · simp only [refsX, refsO, h1, h3]
end
def AgF (K : Nat → Prop) (ob ob' : OB) : Prop := ∀ k, K k → sameF (getO ob k) (getO ob' k)
def AgE (K : Nat → Prop) (ob ob' : OB) : Prop := ∀ k, K k → getO ob k = getO ob' k
theorem AgE.f {K : Nat → Prop} {ob ob' : OB} (h : AgE K ob ob') : AgF K ob ob' := fun k hk => sameF.of_eq (h k hk)
def Clo (K : Nat → Prop) (ob : OB) : Prop := ∀ k, K k → ∀ j ∈ refsX (getO ob k), K j
section
variable {K : Nat → Prop} {ob ob' : OB}
theorem contL_F (h : AgF K ob ob') {v : PV} (hv : ∀ k ∈ refs v, K k) : contL ob v = contL ob' v := by
  cases v <;> simp only [contL]
  case sl o ver lo n => exact contX_F (h o (hv o (by simp [refs]))) _ _ _
  case bs o off lo n => rw [atO_F (h o (hv o (by simp [refs])))]
theorem cont_F (h : AgF K ob ob') {v : PV} (hv : ∀ k ∈ refs v, K k) : cont ob v = cont ob' v := by
  cases v <;> simp only [cont] <;> exact contL_F h hv
theorem l1_F (h : AgF K ob ob') {v : PV} (hv : ∀ k ∈ refs v, K k) : l1 ob v = l1 ob' v := by
  cases v <;> try rfl
  case p o ver i off bi => cases bi <;> simp only [l1] <;> rw [atO_F (h o (hv o (by simp [refs])))]
  case q g xs bi => cases bi <;> rfl
theorem lN_F (h : AgF K ob ob') (n : Nat) {v : PV} (hv : ∀ k ∈ refs v, K k) : lN ob n v = lN ob' n v := by
  unfold lN
  cases v <;> try rfl
  case p o ver i off bi =>
    cases bi with
    | none => simp only [atP]; rw [atO_F (h o (hv o (by simp [refs])))]
    | some k => rfl
  case q g xs bi => cases bi <;> rfl
theorem eNs_F (h : AgF K ob ob') (neg : Bool) {v : PV} (hv : ∀ k ∈ refs v, K k) : eNs neg ob v = eNs neg ob' v := by
  cases v <;> try rfl
  case sl o ver lo n => simp only [eNs]; exact eNX_F (h o (hv o (by simp [refs]))) _ _ _ _
theorem b2s_F (h : AgF K ob ob') {v : PV} (hv : ∀ k ∈ refs v, K k) : b2s ob v = b2s ob' v := by unfold b2s; rw [contL_F h hv]
theorem xS_F (h : AgF K ob ob') (w : Nat) {v i : PV} (hv : ∀ k ∈ refs v, K k) : xS ob w v i = xS ob' w v i := by
  cases v <;> try (cases i <;> rfl)
  case sl o ver lo n => cases i <;> simp only [xS]; exact xSO_F (h o (hv o (by simp [refs]))) _ _ _ _ _ _
theorem cp_F (h : AgF K ob ob') {v : PV} (hv : ∀ k ∈ refs v, K k) : cp ob v = cp ob' v := by
  cases v <;> try rfl
  case sl o ver lo n => simp only [cp]; exact cpO_F (h o (hv o (by simp [refs]))) _ _
theorem slc_arr (ob ob' : OB) (n : Nat) (v : PV) (lo hi mx : Option PV) : slc ob (.arr n) v lo hi mx = slc ob' (.arr n) v lo hi mx := by
  cases v <;> try rfl
  case p o ver i off bi => rcases ver with _ | ver <;> rcases i with _ | i <;> cases bi <;> cases mx <;> rfl
theorem slc_F (h : AgF K ob ob') (k : SK) {v : PV} (lo hi : Option PV) (hv : ∀ k ∈ refs v, K k) : slc ob k v lo hi none = slc ob' k v lo hi none := by
  cases k
  case arr n => exact slc_arr ..
  case str => cases v <;> rfl
  case slice w =>
  cases v <;> try rfl
  case sl o ver l n => simp only [slc, Option.map_none]; exact slO_F (h o (hv o (by simp [refs]))) _ _ _ _ _ _
theorem slc_E (h : AgE K ob ob') (k : SK) {v : PV} (lo hi mx : Option PV) (hv : ∀ k ∈ refs v, K k) : slc ob k v lo hi mx = slc ob' k v lo hi mx := by
  cases k
  case arr n => exact slc_arr ..
  case str => cases v <;> cases mx <;> rfl
  case slice w =>
  cases v <;> try (cases mx <;> rfl)
  case sl o ver l n => simp only [slc]; rw [h o (hv o (by simp [refs]))]
theorem reify0_F (h : AgF K ob ob') {v : PV} (hv : ∀ k ∈ refs v, K k) : reify0 ob v = reify0 ob' v := by
  cases v <;> try rfl
  case sl o ver lo n => simp only [reify0]; rw [contX_F (h o (hv o (by simp [refs])))]
  case bs o off lo n => simp only [reify0]; rw [contL_F h hv]
theorem reifyL_F (h : AgF K ob ob') : ∀ {l : List PV}, (∀ k ∈ refsL l, K k) → reifyL ob l = reifyL ob' l
  | [], _ => rfl
  | v :: r, hv => by
    simp only [refsL] at hv
    simp only [reifyL]
    rw [reify0_F h (fun k hk => hv k (List.mem_append_left _ hk)), reifyL_F h (fun k hk => hv k (List.mem_append_right _ hk))]
theorem reifyEls_F (h : AgF K ob ob') : ∀ {l : List (List PV)}, (∀ k ∈ refsEls l, K k) → reifyEls ob l = reifyEls ob' l
  | [], _ => rfl
  | v :: r, hv => by
    simp only [refsEls] at hv
    simp only [reifyEls]
    rw [reifyL_F h (fun k hk => hv k (List.mem_append_left _ hk)), reifyEls_F h (fun k hk => hv k (List.mem_append_right _ hk))]
theorem refsEls_drop {k : Nat} : ∀ {l : List (List PV)} {n : Nat}, k ∈ refsEls (l.drop n) → k ∈ refsEls l
  | l, 0, hk => by simpa using hk
  | [], n + 1, hk => by simpa using hk
  | x :: r, n + 1, hk => by
    simp only [List.drop_succ_cons] at hk
    simp only [refsEls]; exact List.mem_append_right _ (refsEls_drop hk)
theorem refsEls_take {k : Nat} : ∀ {l : List (List PV)} {n : Nat}, k ∈ refsEls (l.take n) → k ∈ refsEls l
  | l, 0, hk => by simp [refsEls] at hk
  | [], n + 1, hk => by simp [refsEls] at hk
  | x :: r, n + 1, hk => by
    simp only [List.take_succ_cons, refsEls, List.mem_append] at hk
    simp only [refsEls]
    rcases hk with hk | hk
    · exact List.mem_append_left _ hk
    · exact List.mem_append_right _ (refsEls_take hk)
theorem reify1_F (h : AgF K ob ob') {v : PV} (hv : ∀ k ∈ refs v, K k) : reify1 ob v = reify1 ob' v := by
  cases v <;> simp only [reify1] <;> first | exact reify0_F h hv | skip
  case agg cs => rw [reifyL_F h (by simpa only [refs] using hv)]
theorem reify_F (h : AgF K ob ob') (hc : Clo K ob) {v : PV} (hv : ∀ k ∈ refs v, K k) : reify ob v = reify ob' v := by
  cases v <;> simp only [reify] <;> first | exact reify0_F h hv | skip
  case agg cs => rw [reifyL_F h (by simpa only [refs] using hv)]
  case sl o ver lo n =>
    have ho := hv o (by simp [refs])
    have hcl := hc o ho
    rcases sameF_cases (h o ho) with ⟨e1, e2⟩ | ⟨x, y, e1, e2, h1, h2, h3, h4, h5, h6⟩
    · rw [e1, e2]
    · rw [e1] at hcl
      rw [e1, e2]
      simp only [h3, h6, h1]
      split
      · exact reify0_F h hv
      · rename_i hp
        rw [reifyEls_F h (l := (y.els.drop lo).take n) (fun k hk => hcl k ?_)]
        simp only [refsX, refsO]
        rw [if_neg (by rw [h3]; exact hp), h1]
        exact refsEls_drop (refsEls_take hk)
theorem reifies_F (h : AgF K ob ob') (hc : Clo K ob) : ∀ {l : List PV}, (∀ k ∈ refsL l, K k) → reifies ob l = reifies ob' l
  | [], _ => rfl
  | v :: r, hv => by
    simp only [refsL] at hv
    simp only [reifies]
    rw [reify_F h hc (fun k hk => hv k (List.mem_append_left _ hk)), reifies_F h hc (fun k hk => hv k (List.mem_append_right _ hk))]
theorem reifies1_F (h : AgF K ob ob') : ∀ {l : List PV}, (∀ k ∈ refsL l, K k) → reifies1 ob l = reifies1 ob' l
  | [], _ => rfl
  | v :: r, hv => by
    simp only [refsL] at hv
    simp only [reifies1]
    rw [reify1_F h (fun k hk => hv k (List.mem_append_left _ hk)), reifies1_F h (fun k hk => hv k (List.mem_append_right _ hk))]
theorem reify0_L {v : PV} {q : PV × List Nat} (H : reify0 ob v = some q) (hv : ∀ k ∈ refs v, K k) : (∀ k ∈ q.2, K k) ∧ ∀ k ∈ refs q.1, K k := by
  cases v <;> simp only [reify0] at H
  case sl o ver lo n =>
    cases hx : contX (getO ob o) ver lo n with
    | none => simp [hx] at H
    | some r => simp only [hx, Option.map_some, Option.some.injEq] at H; subst H; exact ⟨fun k hk => hv k (by simpa [refs] using hk), fun k hk => by simp [refs] at hk⟩
  case bs o off lo n =>
    cases hx : contL ob (.bs o off lo n) with
    | none => simp [hx] at H
    | some r => simp only [hx, Option.map_some, Option.some.injEq] at H; subst H; exact ⟨fun k hk => hv k (by simpa [refs] using hk), fun k hk => by simp [refs] at hk⟩
  all_goals (injection H with H; subst H)
  all_goals first
    | exact ⟨fun k hk => by simp at hk, hv⟩
    | exact ⟨fun k hk => by simp at hk, fun k hk => by simp [refs] at hk⟩
theorem reifyL_L : ∀ {l : List PV} {q : List PV × List Nat}, reifyL ob l = some q → (∀ k ∈ refsL l, K k) → (∀ k ∈ q.2, K k) ∧ ∀ k ∈ refsL q.1, K k
  | [], q, H, _ => by simp only [reifyL, Option.some.injEq] at H; subst H; exact ⟨fun k hk => by simp at hk, fun k hk => by simp [refsL] at hk⟩
  | v :: r, q, H, hv => by
    simp only [refsL] at hv
    simp only [reifyL] at H
    split at H
    · rename_i a b ha hb
      injection H with H; subst H
      obtain ⟨g1, g2⟩ := reify0_L ha (fun k hk => hv k (List.mem_append_left _ hk))
      obtain ⟨g3, g4⟩ := reifyL_L hb (fun k hk => hv k (List.mem_append_right _ hk))
      exact ⟨fun k hk => (List.mem_append.1 hk).elim (g1 k) (g3 k), fun k hk => by simp only [refsL] at hk; exact (List.mem_append.1 hk).elim (g2 k) (g4 k)⟩
    · cases H
theorem reifyEls_L : ∀ {l : List (List PV)} {q : List (List PV) × List Nat}, reifyEls ob l = some q → (∀ k ∈ refsEls l, K k) → ∀ k ∈ q.2, K k
  | [], q, H, _ => by simp only [reifyEls, Option.some.injEq] at H; subst H; exact fun k hk => by simp at hk
  | v :: r, q, H, hv => by
    simp only [refsEls] at hv
    simp only [reifyEls] at H
    split at H
    · rename_i a b ha hb
      injection H with H; subst H
      have g1 := (reifyL_L ha (fun k hk => hv k (List.mem_append_left _ hk))).1
      have g3 := reifyEls_L hb (fun k hk => hv k (List.mem_append_right _ hk))
      exact fun k hk => (List.mem_append.1 hk).elim (g1 k) (g3 k)
    · cases H
theorem reify1_L {v : PV} {q : PV × List Nat} (H : reify1 ob v = some q) (hv : ∀ k ∈ refs v, K k) : (∀ k ∈ q.2, K k) ∧ ∀ k ∈ refs q.1, K k := by
  unfold reify1 at H
  split at H
  · rename_i cs
    cases hx : reifyL ob cs with
    | none => simp [hx] at H
    | some r =>
      simp only [hx, Option.map_some, Option.some.injEq] at H; subst H
      simpa only [refs] using reifyL_L hx (by simpa only [refs] using hv)
  · exact reify0_L H hv
theorem reify_L (hc : Clo K ob) {v : PV} {q : PV × List Nat} (H : reify ob v = some q) (hv : ∀ k ∈ refs v, K k) : (∀ k ∈ q.2, K k) ∧ ∀ k ∈ refs q.1, K k := by
  unfold reify at H
  split at H
  · rename_i cs
    cases hx : reifyL ob cs with
    | none => simp [hx] at H
    | some r =>
      simp only [hx, Option.map_some, Option.some.injEq] at H; subst H
      simpa only [refs] using reifyL_L hx (by simpa only [refs] using hv)
  · rename_i o ver lo n
    have ho := hv o (by simp [refs])
    have hcl := hc o ho
    cases hx : getO ob o with
    | none => simp [hx] at H
    | some x =>
      rw [hx] at hcl
      simp only [hx] at H
      split at H
      · exact reify0_L H hv
      · rename_i hp
        split at H
        · cases hre : reifyEls ob ((x.els.drop lo).take n) with
          | none => simp [hre] at H
          | some r =>
            simp only [hre, Option.bind_some] at H
            split at H
            · injection H with H; subst H
              have := reifyEls_L (K := K) hre (fun k hk => hcl k (by
                simp only [refsX, refsO]
                rw [if_neg hp]
                exact refsEls_drop (refsEls_take hk)))
              exact ⟨fun k hk => (List.mem_cons.1 hk).elim (fun e => e ▸ ho) (this k), fun k hk => by simp [refs] at hk⟩
            · cases H
        · cases H
  · exact reify0_L H hv
theorem reifies_L (hc : Clo K ob) : ∀ {l : List PV} {q : List PV × List Nat}, reifies ob l = some q → (∀ k ∈ refsL l, K k) → (∀ k ∈ q.2, K k) ∧ ∀ k ∈ refsL q.1, K k
  | [], q, H, _ => by simp only [reifies, Option.some.injEq] at H; subst H; exact ⟨fun k hk => by simp at hk, fun k hk => by simp [refsL] at hk⟩
  | v :: r, q, H, hv => by
    simp only [refsL] at hv
    simp only [reifies] at H
    split at H
    · rename_i a b ha hb
      injection H with H; subst H
      obtain ⟨g1, g2⟩ := reify_L hc ha (fun k hk => hv k (List.mem_append_left _ hk))
      obtain ⟨g3, g4⟩ := reifies_L hc hb (fun k hk => hv k (List.mem_append_right _ hk))
      exact ⟨fun k hk => (List.mem_append.1 hk).elim (g1 k) (g3 k), fun k hk => by simp only [refsL] at hk; exact (List.mem_append.1 hk).elim (g2 k) (g4 k)⟩
    · cases H
theorem reifies1_L : ∀ {l : List PV} {q : List PV × List Nat}, reifies1 ob l = some q → (∀ k ∈ refsL l, K k) → (∀ k ∈ q.2, K k) ∧ ∀ k ∈ refsL q.1, K k
  | [], q, H, _ => by simp only [reifies1, Option.some.injEq] at H; subst H; exact ⟨fun k hk => by simp at hk, fun k hk => by simp [refsL] at hk⟩
  | v :: r, q, H, hv => by
    simp only [refsL] at hv
    simp only [reifies1] at H
    split at H
    · rename_i a b ha hb
      injection H with H; subst H
      obtain ⟨g1, g2⟩ := reify1_L ha (fun k hk => hv k (List.mem_append_left _ hk))
      obtain ⟨g3, g4⟩ := reifies1_L hb (fun k hk => hv k (List.mem_append_right _ hk))
      exact ⟨fun k hk => (List.mem_append.1 hk).elim (g1 k) (g3 k), fun k hk => by simp only [refsL] at hk; exact (List.mem_append.1 hk).elim (g2 k) (g4 k)⟩
    · cases H
end
end Go.Proofs.YtmhpkdcnhgmblaaDoor
