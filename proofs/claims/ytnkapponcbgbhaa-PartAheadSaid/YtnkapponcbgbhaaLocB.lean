import Derived.Test.YtnkapponcbgbhaaHeadB
set_option linter.all false
namespace Go.Proofs.Ytnkapponcbgbhaa
open Go
def Fr (u ob ob' : OB) : Prop := ∀ k, getO u k ≠ none → getO ob k = none → getO ob' k = none
def Upd (c : Nat) (K : Nat → Prop) (ob u : OB) : Prop := ∀ k X, getO u k = some X → getO ob k = none ∨ (K k ∧ (c = 2 ∨ c = 4)) ∨ (K k ∧ (c = 1 ∨ c = 3) ∧ ∃ Y, getO ob k = some Y ∧ X = frz1 Y)
def LU (c : Nat) (K : Nat → Prop) (ob ob' : OB) (A B : Option Up) : Prop := ∀ r, A = some r → (Fr r.2 ob ob' → B = some r) ∧ Upd c K ob r.2
theorem getO_one {o k : Nat} {x X : Obj'} (h : getO [(o, x)] k = some X) : o = k ∧ x = X := by
  simp only [getO] at h
  split at h
  · rename_i e; exact ⟨e, by injection h⟩
  · cases h
section
variable {c : Nat} {K : Nat → Prop} {ob ob' : OB}
theorem Upd.nil : Upd c K ob [] := fun k X h => by simp [getO] at h
theorem Upd.app {u v : OB} (h : Upd c K ob u) (g : Upd c K ob v) : Upd c K ob (u ++ v) := by
  intro k X hk
  rw [getO_app] at hk
  split at hk
  · rename_i x hx; injection hk with hk; subst hk; exact h k x hx
  · exact g k X hk
theorem LU.eq {A B : Option Up} (h : A = B) (hu : ∀ r, A = some r → Upd c K ob r.2) : LU c K ob ob' A B := fun r hr => ⟨fun _ => by rw [← h]; exact hr, hu r hr⟩
theorem LU.new (d : Nat) (x : Obj') (v : PV) : LU c K ob ob' (newX d x v (getO ob d)) (newX d x v (getO ob' d)) := by
  intro r hr
  cases hd : getO ob d with
  | some y => simp [hd, newX] at hr
  | none =>
    simp only [hd, newX, Option.some.injEq] at hr; subst hr
    refine ⟨fun hf => ?_, fun k X hk => ?_⟩
    · have := hf d (by simp [getO]) hd
      simp only [this, newX]
    · obtain ⟨rfl, _⟩ := getO_one hk
      exact .inl hd
theorem LU.ite {p : Prop} [Decidable p] {A B A' B' : Option Up} (h : p → LU c K ob ob' A B) (h' : ¬ p → LU c K ob ob' A' B') : LU c K ob ob' (if p then A else A') (if p then B else B') := by
  split
  · rename_i hp; exact h hp
  · rename_i hp; exact h' hp
theorem LU.none (B : Option Up) : LU c K ob ob' none B := fun r hr => by cases hr
theorem upd_K (hc : c = 2 ∨ c = 4) {u : OB} (h : ∀ k X, getO u k = some X → K k) : Upd c K ob u := fun k X hk => .inr (.inl ⟨h k X hk, hc⟩)
theorem puri_E (h : AgE K ob ob') {v : PV} (hv : ∀ k ∈ refs v, K k) : puri ob v = puri ob' v := by
  cases v <;> try rfl
  case sl o ver lo n => simp only [puri]; rw [h o (hv o (by simp [refs]))]
theorem puris_E (h : AgE K ob ob') : ∀ {l : List PV}, (∀ k ∈ refsL l, K k) → puris ob l = puris ob' l
  | [], _ => rfl
  | v :: r, hv => by
    simp only [refsL] at hv
    simp only [puris]
    rw [puri_E h (fun k hk => hv k (List.mem_append_left _ hk)), puris_E h (fun k hk => hv k (List.mem_append_right _ hk))]
theorem puri_K {v : PV} {q : PV × Bool × OB} (H : puri ob v = some q) : ∀ k X, getO q.2.2 k = some X → k ∈ refs v := by
  cases v <;> simp only [puri] at H
  case sl o ver lo n =>
    cases hx : getO ob o with
    | none => simp [hx, contX, frzX] at H
    | some x =>
      cases hy : contX (some x) ver lo n with
      | none => simp [hx, hy, frzX] at H
      | some y =>
        simp only [hx, hy, frzX, Option.some.injEq] at H; subst H
        intro k X hk
        obtain ⟨rfl, _⟩ := getO_one hk
        simp [refs]
  all_goals first
    | (injection H with H; subst H; intro k X hk; simp [getO] at hk)
    | cases H
theorem puris_K : ∀ {l : List PV} {q : List PV × Bool × OB}, puris ob l = some q → ∀ k X, getO q.2.2 k = some X → k ∈ refsL l
  | [], q, H => by simp only [puris, Option.some.injEq] at H; subst H; intro k X hk; simp [getO] at hk
  | v :: r, q, H => by
    simp only [puris] at H
    cases ha : puri ob v with
    | none => simp [ha, puriC] at H
    | some a =>
      cases hb : puris ob r with
      | none => simp [ha, hb, puriC] at H
      | some b =>
        simp only [ha, hb, puriC, Option.some.injEq] at H; subst H
        intro k X hk
        simp only [refsL, List.mem_append]
        rw [getO_app] at hk
        split at hk
        · rename_i x hx; exact .inl (puri_K ha k x hx)
        · exact .inr (puris_K hb k X hk)
theorem refsL_cellsOf (v : PV) : refsL (cellsOf v) = refs v := by cases v <;> simp [cellsOf, refsL, refs]
theorem purEls_E (h : AgE K ob ob') : ∀ {l : List (List PV)}, (∀ k ∈ refsEls l, K k) → purEls ob l = purEls ob' l
  | [], _ => rfl
  | x :: r, hl => by
    simp only [purEls]
    rw [puris_E h (fun k hk => hl k (by simp [refsEls, hk])), purEls_E h (fun k hk => hl k (by simp [refsEls, hk]))]
theorem purEls_K : ∀ {l : List (List PV)} {q : List (List PV) × Bool × OB}, purEls ob l = some q → ∀ k X, getO q.2.2 k = some X → k ∈ refsEls l
  | [], q, H, k, X, hX => by simp only [purEls, Option.some.injEq] at H; subst H; simp [getO] at hX
  | x :: r, q, H, k, X, hX => by
    simp only [purEls] at H
    cases h1 : puris ob x with
    | none => simp [h1, purC] at H
    | some a =>
      cases h2 : purEls ob r with
      | none => simp [h1, h2, purC] at H
      | some b =>
        simp only [h1, h2, purC, Option.some.injEq] at H; subst H
        rw [getO_app] at hX
        simp only [refsEls, List.mem_append]
        split at hX
        · rename_i y hy; exact .inl (puris_K h1 k y hy)
        · exact .inr (purEls_K h2 k X hX)
theorem refsEls_cellsL : ∀ l : List PV, refsEls (cellsL l) = refsL l
  | [] => rfl
  | v :: r => by simp only [cellsL, refsEls, refsL, refsL_cellsOf, refsEls_cellsL r]
theorem bldP_LU (hc : c = 2 ∨ c = 4) (h : AgE K ob ob') (d w : Nat) {l : List PV} (hl : ∀ k ∈ refsL l, K k) : LU c K ob ob' (bldP ob d w l) (bldP ob' d w l) := by
  cases l with
  | nil => exact LU.eq rfl (fun r hr => by simp only [bldP, bldS, bldU, Option.some.injEq] at hr; subst hr; exact Upd.nil)
  | cons v r =>
    intro q hq
    unfold bldP at hq ⊢
    simp only [bldS] at hq ⊢
    split at hq
    rotate_left
    · simp [bldU] at hq
    rename_i hcond
    rw [if_pos hcond]
    generalize hX : ({ els := cellsL (v :: r), w := w, pu := isPureEls (cellsL (v :: r)), g := noExtEls (cellsL (v :: r)) || !isPureEls (cellsL (v :: r)), cap := some (v :: r).length, ver := 0, fro := false } : Obj') = X at hq ⊢
    have hels : X.els = cellsL (v :: r) := by rw [← hX]
    cases hd : getO ob d with
    | some y => simp [hd, newX, bldU] at hq
    | none =>
      simp only [hd, newX, bldU] at hq
      have key : ∀ u : OB, (∀ k Y, getO u k = some Y → k ∈ refsEls X.els) → q.2 = (d, { X with els := (q.2.head?.map (·.2.els)).getD [], pu := true, g := (q.2.head?.map (·.2.g)).getD false }) :: (u ++ [(d, X)]) → Upd c K ob q.2 := by
        intro u hu e k Y hk
        rw [e] at hk
        simp only [getO] at hk
        split at hk
        · rename_i e'; subst e'; exact .inl hd
        · rw [getO_app] at hk
          split at hk
          · rename_i y hy
            have hm := hu k y hy
            rw [hels, refsEls_cellsL] at hm
            exact .inr (.inl ⟨hl k hm, hc⟩)
          · obtain ⟨rfl, _⟩ := getO_one hk; exact .inl hd
      have hag : AgE K ((d, X) :: ob) ((d, X) :: ob') := fun k hk => by
        simp only [getO]
        split
        · rfl
        · exact h k hk
      have hpe : purEls ((d, X) :: ob) X.els = purEls ((d, X) :: ob') X.els := purEls_E hag (fun k hk => hl k (by rw [hels, refsEls_cellsL] at hk; exact hk))
      split at hq
      · rename_i hp
        injection hq with hq
        refine ⟨fun hf => ?_, fun k Y hk => ?_⟩
        · have := hf d (by rw [← hq]; simp [getO]) hd
          simp only [this, newX, bldU]
          rw [if_pos hp, hq]
        · rw [← hq] at hk
          obtain ⟨rfl, _⟩ := getO_one hk; exact .inl hd
      · rename_i hp
        cases hq2 : purEls ((d, X) :: ob) X.els with
        | none => simp [hq2, bldQ] at hq
        | some p =>
          simp only [hq2, bldQ] at hq
          split at hq
          · cases hq
          · rename_i hany
            injection hq with hq
            refine ⟨fun hf => ?_, key p.2.2 (purEls_K hq2) (by rw [← hq]; simp)⟩
            have := hf d (by rw [← hq]; simp [getO]) hd
            simp only [this, newX, bldU]
            rw [if_neg hp, ← hpe, hq2]
            simp only [bldQ]
            rw [if_neg hany, hq]
theorem stE_E (h : AgE K ob ob') {o : Nat} {x : Obj'} {i off : Nat} {v : PV} (hv : ∀ k ∈ refs v, K k) (el : Option (List PV)) : stE ob o x i off v el = stE ob' o x i off v el := by
  cases el with
  | none => rfl
  | some el => simp only [stE]; rw [puris_E h (by rw [refsL_cellsOf]; exact hv)]
theorem st_E (h : AgE K ob ob') (n : Nat) {a v : PV} (ha : ∀ k ∈ refs a, K k) (hv : ∀ k ∈ refs v, K k) : st ob n a v = st ob' n a v := by
  cases a <;> try rfl
  case p o ver i off bi =>
    have ho := h o (ha o (by simp [refs]))
    cases bi with
    | none =>
      simp only [st]
      rw [← ho]
      cases hx : getO ob o with
      | none => rfl
      | some x => simp only [stX]; rw [stE_E h hv]
    | some k => simp only [st]; rw [ho]
theorem stD_K {o : Nat} {x : Obj'} {i : Nat} {y : Option (List PV)} {r : Up} (H : stD o x i y = some r) : ∀ k X, getO r.2 k = some X → k = o := by
  cases y with
  | none => cases H
  | some y => simp only [stD, Option.some.injEq] at H; subst H; intro k X hk; exact (getO_one hk).1.symm
theorem st_K {n : Nat} {a v : PV} {r : Up} (H : st ob n a v = some r) : ∀ k X, getO r.2 k = some X → k ∈ refs a ∨ k ∈ refs v := by
  cases a <;> try (cases H; done)
  case p o ver i off bi =>
    intro k X hk
    have hin : k = o → k ∈ refs (.p o ver i off bi) := fun e => by simp [refs, e]
    cases bi with
    | none =>
      simp only [st] at H
      split at H
      · cases hx : getO ob o with
        | none => simp [hx, stX] at H
        | some x =>
          simp only [hx, stX] at H
          split at H
          · cases he : x.els[i]? with
            | none => simp [he, stE] at H
            | some el =>
              simp only [he, stE] at H
              split at H
              · cases hp : puris ob (cellsOf v) with
                | none => simp [hp, stP] at H
                | some q =>
                  simp only [hp, stP] at H
                  cases hy : putW el off q.1 with
                  | none => simp [hy, stQ] at H
                  | some y =>
                    simp only [hy, stQ] at H
                    split at H
                    · cases H
                    · simp only [Option.some.injEq] at H; subst H
                      simp only [getO] at hk
                      split at hk
                      · rename_i e; exact .inl (hin e.symm)
                      · exact .inr (by rw [← refsL_cellsOf]; exact puris_K hp k X hk)
              · exact .inl (hin (stD_K H k X hk))
          · cases H
      · cases H
    | some j =>
      simp only [st] at H
      split at H
      · cases hx : getO ob o with
        | none => simp [hx, stB] at H
        | some x =>
          simp only [hx, stB] at H
          split at H
          · cases he : x.els[i]? with
            | none => simp [he, stG] at H
            | some el =>
              simp only [he, stG] at H
              unfold stF at H
              split at H
              · split at H
                · simp only [Option.some.injEq] at H; subst H
                  exact .inl (hin (getO_one hk).1.symm)
                · cases H
              · cases H
          · cases H
      · cases H
theorem slL_nil {g : Bool} {xs : List (List PV)} {a b c : Option Int} {r : Up} (H : slL g xs a b c = some r) : r.2 = [] := by
  unfold slL at H
  split at H
  · split at H
    · injection H with H; rw [← H]
    · cases H
  · cases H
theorem slc_K {k : SK} {v : PV} {lo hi mx : Option PV} {r : Up} (H : slc ob k v lo hi mx = some r) : r.2 = [] ∨ (mx ≠ none ∧ ∀ j X, getO r.2 j = some X → j ∈ refs v) := by
  unfold slc at H
  split at H
  · split at H
    · exact .inl (slL_nil H)
    · cases H
  · split at H
    · exact .inl (slL_nil H)
    · cases H
  · refine .inl ?_
    unfold slE at H
    split at H
    · split at H
      · injection H with H; rw [← H]
      · cases H
    · cases H
  · cases mx with
    | none =>
      refine .inl ?_
      unfold slO at H
      simp only [Option.map_none] at H
      split at H
      · split at H
        · injection H with H; rw [← H]
        · cases H
      · rename_i hm; cases hm
      · cases H
    | some mx =>
      unfold slO at H
      split at H
      · split at H
        · injection H with H; rw [← H]; exact .inl rfl
        · cases H
      · split at H
        · injection H with H; subst H
          exact .inr ⟨by simp, fun j X hj => by simp [refs, (getO_one hj).1]⟩
        · cases H
      · cases H
  · refine .inl ?_
    split at H
    · unfold slB at H
      split at H
      · split at H
        · injection H with H; rw [← H]
        · cases H
      · cases H
    · cases H
  · refine .inl ?_
    unfold slS at H
    split at H
    · split at H
      · injection H with H; rw [← H]
      · cases H
    · cases H
  · refine .inl ?_
    unfold slB at H
    split at H
    · split at H
      · injection H with H; rw [← H]
      · cases H
    · cases H
  · cases H
theorem apO_K {o ver lo n w : Nat} {gy : Bool} {ys : List (List PV)} {y : Option Obj'} {r : Up} (H : apO o ver lo n w gy ys y = some r) : ∀ k X, getO r.2 k = some X → k = o := by
  unfold apO at H
  split at H
  · split at H
    · split at H
      · injection H with H; subst H; intro k X hk; exact (getO_one hk).1.symm
      · injection H with H; subst H; intro k X hk; exact (getO_one hk).1.symm
    · cases H
  · cases H
theorem apE_LU (hc : c = 2 ∨ c = 4) (h : AgE K ob ob') (d w : Nat) (gy : Bool) (ys : List (List PV)) {x : PV} (hx : ∀ k ∈ refs x, K k) : LU c K ob ob' (apE ob d w gy ys x) (apE ob' d w gy ys x) := by
  cases x <;> try exact LU.none _
  case e b => simp only [apE]; exact LU.ite (fun _ => LU.new _ _ _) (fun _ => LU.none _)
  case sl o ver lo n =>
    have ho : K o := hx o (by simp [refs])
    simp only [apE]
    rw [← h o ho]
    exact LU.eq rfl (fun r hr => upd_K hc (fun k X hk => by rw [apO_K hr k X hk]; exact ho))
theorem ap_LU (hc : c = 2 ∨ c = 4) (h : AgE K ob ob') (d w : Nat) {x y : PV} (hx : ∀ k ∈ refs x, K k) (hy : ∀ k ∈ refs y, K k) : LU c K ob ob' (ap ob d w x y) (ap ob' d w x y) := by
  unfold ap
  rw [← cont_F h.f hy]
  cases cont ob y with
  | none => exact LU.none _
  | some q => exact apE_LU hc h _ _ _ _ hx
theorem apz_LU (hc : c = 2 ∨ c = 4) (h : AgE K ob ob') (d : Nat) (z : List PV) {x : PV} (y : PV) (hx : ∀ k ∈ refs x, K k) : LU c K ob ob' (apz ob d z x y) (apz ob' d z x y) := by
  cases y <;> try exact LU.none _
  case i k n => simp only [apz]; exact LU.ite (fun _ => apE_LU hc h _ _ _ _ hx) (fun _ => LU.none _)
theorem contN_F (h : AgF K ob ob') {v : PV} (hv : ∀ k ∈ refs v, K k) : contN ob v = contN ob' v := by
  cases v <;> try rfl
  case sl o ver lo n =>
    have ho := h o (hv o (by simp [refs]))
    simp only [contN]
    rcases sameF_cases ho with ⟨h1, h2⟩ | ⟨x, y, h1, h2, e1, e2, e3, e4, e5, e6⟩
    · rw [h1, h2]
    · rw [h1, h2]; simp only [contNX, e1, e3, e6]
theorem apNE_LU (h : AgE K ob ob') (d w : Nat) (ys : List (List PV)) {x : PV} (hx : ∀ k ∈ refs x, K k) : LU c K ob ob' (apNE ob d w ys x) (apNE ob' d w ys x) := by
  cases x <;> try exact LU.none _
  case e b => simp only [apNE]; exact LU.ite (fun _ => LU.new _ _ _) (fun _ => LU.none _)
  case sl o ver lo n =>
    have ho : K o := hx o (by simp [refs])
    simp only [apNE]
    rw [← h o ho]
    exact LU.ite (fun _ => LU.new _ _ _) (fun _ => LU.none _)
theorem apN_LU (h : AgE K ob ob') (d w : Nat) {x y : PV} (hx : ∀ k ∈ refs x, K k) (hy : ∀ k ∈ refs y, K k) : LU c K ob ob' (apN ob d w x y) (apN ob' d w x y) := by
  unfold apN
  rw [← contN_F h.f hy]
  cases contN ob y with
  | none => exact LU.none _
  | some q => exact apNE_LU h _ _ _ hx
theorem apzN_LU (h : AgE K ob ob') (d : Nat) (z : List PV) {x : PV} (y : PV) (hx : ∀ k ∈ refs x, K k) : LU c K ob ob' (apzN ob d z x y) (apzN ob' d z x y) := by
  cases y <;> try exact LU.none _
  case i k n => simp only [apzN]; exact LU.ite (fun _ => apNE_LU h _ _ _ hx) (fun _ => LU.none _)
theorem cpN_LU (hc : c = 2 ∨ c = 4) (h : AgE K ob ob') (w : Nat) {x y : PV} (hx : ∀ k ∈ refs x, K k) (hy : ∀ k ∈ refs y, K k) : LU c K ob ob' (cpN ob w x y) (cpN ob' w x y) := by
  unfold cpN
  rw [← contN_F h.f hy]
  cases contN ob y with
  | none => exact LU.none _
  | some q =>
    simp only [cpNC]
    cases x <;> try exact LU.none _
    case sl o ver lo n =>
      have ho : K o := hx o (by simp [refs])
      simp only [cpNX]
      rw [← h o ho]
      refine LU.eq rfl (fun r hr => upd_K hc (fun k X hk => ?_))
      unfold cpNO at hr
      split at hr
      · split at hr
        · injection hr with hr; subst hr; rw [← (getO_one hk).1]; exact ho
        · cases hr
      · cases hr
theorem cpX_K {w : Nat} {gy : Bool} {ys : List (List PV)} {x : PV} {r : Up} (H : cpX ob w gy ys x = some r) : ∀ k X, getO r.2 k = some X → k ∈ refs x := by
  cases x <;> simp only [cpX] at H <;> try (cases H; done)
  case e b => injection H with H; subst H; intro k X hk; simp [getO] at hk
  case sl o ver lo n =>
    unfold cpyO at H
    split at H
    · split at H
      · injection H with H; subst H; intro k X hk; simp [refs, (getO_one hk).1]
      · cases H
    · cases H
  case bs o off lo n =>
    split at H
    · unfold cpyB at H
      split at H
      · split at H
        · unfold cpyE at H
          split at H
          · unfold cpyD at H
            split at H
            · split at H
              · injection H with H; subst H; intro k X hk; simp [refs, (getO_one hk).1]
              · cases H
            · cases H
          · cases H
        · cases H
      · cases H
    · cases H
theorem cpX_E (h : AgE K ob ob') (w : Nat) (gy : Bool) (ys : List (List PV)) {x : PV} (hx : ∀ k ∈ refs x, K k) : cpX ob w gy ys x = cpX ob' w gy ys x := by
  cases x <;> try rfl
  case sl o ver lo n => simp only [cpX]; rw [h o (hx o (by simp [refs]))]
  case bs o off lo n => simp only [cpX]; rw [h o (hx o (by simp [refs]))]
theorem cpy_LU (hc : c = 2 ∨ c = 4) (h : AgE K ob ob') (w : Nat) {x y : PV} (hx : ∀ k ∈ refs x, K k) (hy : ∀ k ∈ refs y, K k) : LU c K ob ob' (cpy ob w x y) (cpy ob' w x y) := by
  unfold cpy
  rw [← cont_F h.f hy]
  cases cont ob y with
  | none => exact LU.none _
  | some q =>
    simp only [cpC]
    exact LU.eq (cpX_E h _ _ _ hx) (fun r hr => upd_K hc (fun k X hk => hx k (cpX_K hr k X hk)))
theorem mpu_LU (hc : c = 2 ∨ c = 4) (h : AgE K ob ob') (k : IntKind) {x : PV} (y v : PV) (hx : ∀ k ∈ refs x, K k) : LU c K ob ob' (mpu ob k x y v) (mpu ob' k x y v) := by
  unfold mpu
  split
  · rename_i o k' n
    have ho : K o := hx o (by simp [refs])
    rw [← h o ho]
    refine LU.ite (fun _ => LU.eq rfl (fun r hr => upd_K hc (fun j X hj => ?_))) (fun _ => LU.none _)
    unfold mpuX at hr
    split at hr
    · split at hr
      · split at hr
        · injection hr with hr; subst hr; rw [← (getO_one hj).1]; exact ho
        · cases hr
      · cases hr
    · cases hr
  · exact LU.none _
theorem mpc_LU (hc : c = 2 ∨ c = 4) (h : AgE K ob ob') {x : PV} (hx : ∀ k ∈ refs x, K k) : LU c K ob ob' (mpc ob x) (mpc ob' x) := by
  unfold mpc
  split
  · rename_i o
    have ho : K o := hx o (by simp [refs])
    rw [← h o ho]
    refine LU.eq rfl (fun r hr => upd_K hc (fun j X hj => ?_))
    unfold mpcX at hr
    split at hr
    · split at hr
      · split at hr
        · injection hr with hr; subst hr; rw [← (getO_one hj).1]; exact ho
        · cases hr
      · cases hr
    · cases hr
  · exact LU.none _
theorem frz_F (h : AgF K ob ob') : ∀ {l : List Nat}, (∀ k ∈ l, K k) → frz ob l = frz ob' l
  | [], _ => rfl
  | o :: r, hv => by
    simp only [frz]
    rw [frz_F h (fun k hk => hv k (List.mem_cons_of_mem _ hk))]
    rcases sameF_cases (h o (hv o (by simp))) with ⟨e1, e2⟩ | ⟨x, y, e1, e2, h1, h2, h3, h4, h5, h6⟩
    · rw [e1, e2]
    · have h7 := h o (hv o (by simp))
      rw [e1, e2] at h7
      have h7 := sameF_mp h7
      rw [e1, e2]
      cases x; cases y
      simp only at h1 h2 h3 h4 h5 h6 h7
      subst h7; subst h1; subst h2; subst h3; subst h4; subst h5; subst h6
      cases frz ob' r <;> rfl
theorem frz_K : ∀ {l : List Nat} {z : OB}, frz ob l = some z → ∀ k X, getO z k = some X → k ∈ l ∧ ∃ Y, getO ob k = some Y ∧ X = frz1 Y
  | [], z, H => by simp only [frz, Option.some.injEq] at H; subst H; intro k X hk; simp [getO] at hk
  | o :: r, z, H => by
    simp only [frz] at H
    split at H
    · rename_i x y hx hy
      split at H
      · injection H with H; subst H
        intro k X hk
        simp only [getO] at hk
        split at hk
        · rename_i e; subst e; injection hk with hk; subst hk
          exact ⟨by simp, x, hx, rfl⟩
        · obtain ⟨g1, g2⟩ := frz_K hy k X hk
          exact ⟨List.mem_cons_of_mem _ g1, g2⟩
      · cases H
    · cases H
theorem frz_U {l : List Nat} {z : OB} (H : frz ob l = some z) (hl : ∀ k ∈ l, K k) (hc : c ≠ 0) (hc4 : c ≤ 4) : Upd c K ob z := by
  intro k X hk
  obtain ⟨h1, Y, h2, h3⟩ := frz_K H k X hk
  by_cases h : c = 2 ∨ c = 4
  · exact .inr (.inl ⟨hl k h1, h⟩)
  · exact .inr (.inr ⟨hl k h1, by omega, Y, h2, h3⟩)
theorem newOs_L (f : Nat → Nat) : ∀ (l : List Obj') (d : Nat) (w : OB), newOs ob f d l = some w → (∀ k, getO w k ≠ none → getO ob' k = none) → newOs ob' f d l = some w
  | [], d, w, H, _ => H
  | x :: s, d, w, H, hf => by
    simp only [newOs] at H
    split at H
    · rename_i r hd hr
      injection H with H; subst H
      have h1 : getO ob' d = none := hf d (by simp [getO])
      have h2 := newOs_L f s (d + 1) r hr (fun k hk => hf k (by
        simp only [getO]
        split
        · simp
        · exact hk))
      simp only [newOs, h1, h2]
    · cases H
theorem newOs_N {f : Nat → Nat} {l : List Obj'} {d : Nat} {w : OB} (H : newOs ob f d l = some w) : ∀ k, getO w k ≠ none → getO ob k = none := by
  obtain ⟨h1, h2, _⟩ := newOs_ok ob f d l w H
  intro k hk
  have := (not_congr (h1 k)).1 hk
  exact h2 k (by omega) (by omega)
theorem newOs_LU {f : Nat → Nat} {l : List Obj'} {d : Nat} {w : OB} (H : newOs ob f d l = some w) : (Fr w ob ob' → newOs ob' f d l = some w) ∧ Upd c K ob w :=
  ⟨fun hf => newOs_L f l d w H (fun k hk => hf k hk (newOs_N H k hk)), fun k X hk => .inl (newOs_N H k (by rw [hk]; simp))⟩
theorem Fr.left {u v : OB} (h : Fr (u ++ v) ob ob') : Fr u ob ob' := fun k hk => h k (by
  rw [getO_app]
  cases hu : getO u k with
  | none => exact absurd hu hk
  | some x => simp)
theorem back0_LU (h : AgF K ob ob') (hc : c ≠ 0) (hc4 : c ≤ 4) (d : Nat) {bor : List Nat} (hb : ∀ k ∈ bor, K k) (r : PV) (out : List Obj') : LU c K ob ob' (back0 ob d bor r out) (back0 ob' d bor r out) := by
  intro q hq
  cases out with
  | nil =>
    simp only [back0] at hq ⊢
    split at hq
    · rename_i hcd
      injection hq with hq; subst hq
      exact ⟨fun _ => by rw [if_pos hcd], Upd.nil⟩
    · rename_i hcd
      rw [if_neg hcd, ← frz_F h hb]
      cases hz : frz ob bor with
      | none => simp [hz] at hq
      | some z =>
        simp only [hz, Option.map_some, Option.some.injEq] at hq; subst hq
        exact ⟨fun _ => rfl, frz_U hz hb hc hc4⟩
  | cons o1 out =>
    simp only [back0] at hq ⊢
    split at hq
    · cases hq
    · rename_i h8
      rw [if_neg h8]
      split at hq
      · cases hq
      · rename_i w hw
        obtain ⟨g1, g2⟩ := newOs_LU (ob' := ob') (c := c) (K := K) hw
        split at hq
        · rename_i hcd
          injection hq with hq; subst hq
          exact ⟨fun hf => by rw [g1 hf]; simp only; rw [if_pos hcd], g2⟩
        · rename_i hcd
          cases hz : frz ob bor with
          | none => simp [hz] at hq
          | some z =>
            simp only [hz, Option.map_some, Option.some.injEq] at hq; subst hq
            exact ⟨fun hf => by rw [g1 hf.left]; simp only; rw [if_neg hcd, ← frz_F h hb, hz]; rfl, g2.app (frz_U hz hb hc hc4)⟩
theorem back_LU (h : AgE K ob ob') (hc : c = 4) (d : Nat) {bor ids : List Nat} (hb : ∀ k ∈ bor, K k) (hi : ∀ k ∈ ids, K k) (r : PV) (out : List Obj') : LU c K ob ob' (back ob d bor ids r out) (back ob' d bor ids r out) := by
  intro q hq
  unfold back at hq ⊢
  simp only at hq ⊢
  split at hq
  · cases hq
  · rename_i u rest hu
    obtain ⟨_, _, p3, _⟩ := putOs_ok _ _ _ _ _ hu
    have hU : Upd c K ob u := upd_K (.inr hc) (fun k X hk => hi k (Classical.not_not.1 ((not_congr (p3 k)).1 (by rw [hk]; simp))))
    split at hq
    · cases hq
    · rename_i h8
      split at hq
      · cases hq
      · rename_i w hw
        obtain ⟨g1, g2⟩ := newOs_LU (ob' := ob') (c := c) (K := K) hw
        split at hq
        · rename_i hcd
          injection hq with hq; subst hq
          refine ⟨fun hf => ?_, g2.app hU⟩
          rw [if_neg h8, g1 hf.left]; simp only; rw [if_pos hcd]
        · rename_i hcd
          cases hz : frz ob bor with
          | none => simp [hz] at hq
          | some z =>
            simp only [hz, Option.map_some, Option.some.injEq] at hq; subst hq
            refine ⟨fun hf => ?_, (g2.app hU).app (frz_U hz hb (by omega) (by omega))⟩
            rw [if_neg h8, g1 hf.left.left]; simp only
            rw [if_neg hcd, ← frz_F h.f hb, hz]; rfl
theorem ca0_LU (Φ : Sem') (h : AgF K ob ob') (hc : c ≠ 0) (hc4 : c ≤ 4) (d : Nat) (n : Bool) (hcl : n = true → Clo K ob) (f : Nat) {args : List PV} (ha : ∀ k ∈ refsL args, K k) : LU c K ob ob' (ca0 Φ ob d n f args) (ca0 Φ ob' d n f args) := by
  have e : reifiesN n ob args = reifiesN n ob' args := by
    unfold reifiesN
    cases n with
    | true => exact reifies_F h (hcl rfl) ha
    | false => exact reifies1_F h ha
  unfold ca0
  rw [← e]
  cases hq : reifiesN n ob args with
  | none => exact LU.none _
  | some q =>
    have hb : ∀ k ∈ q.2, K k := by
      unfold reifiesN at hq
      cases n with
      | true => exact (reifies_L (hcl rfl) hq ha).1
      | false => exact (reifies1_L hq ha).1
    simp only [ca0X]
    refine LU.ite (fun _ => ?_) (fun _ => LU.none _)
    cases Φ f q.1 [] with
    | none => exact LU.none _
    | some z => exact back0_LU h hc hc4 d hb _ _
theorem reach_E (h : AgE K ob ob') (hcl : Clo K ob) : ∀ (n : Nat) (todo acc : List Nat), (∀ k ∈ todo, K k) → reach ob n todo acc = reach ob' n todo acc
  | n, [], acc, _ => by cases n <;> rfl
  | 0, _ :: _, acc, _ => rfl
  | n + 1, o :: todo, acc, ht => by
    simp only [reach]
    have ho := ht o (by simp)
    have hc := hcl o ho
    rw [reach_E h hcl n todo acc (fun k hk => ht k (List.mem_cons_of_mem _ hk)), ← h o ho]
    split
    · rfl
    · split
      · rename_i x hx
        rw [hx] at hc
        exact reach_E h hcl n _ _ (fun k hk => (List.mem_append.1 hk).elim (fun hk => ht k (List.mem_cons_of_mem _ hk)) (hc k))
      · rfl
theorem reach_K (hcl : Clo K ob) : ∀ (n : Nat) (todo acc ids : List Nat), reach ob n todo acc = some ids → (∀ k ∈ todo, K k) → (∀ k ∈ acc, K k) → ∀ k ∈ ids, K k
  | n, [], acc, ids, H, _, ha => by
    have e : acc = ids := by cases n <;> simpa only [reach, Option.some.injEq] using H
    subst e; exact ha
  | 0, _ :: _, acc, ids, H, _, _ => by simp [reach] at H
  | n + 1, o :: todo, acc, ids, H, ht, ha => by
    simp only [reach] at H
    have ho := ht o (by simp)
    have hc := hcl o ho
    split at H
    · exact reach_K hcl n todo acc ids H (fun k hk => ht k (List.mem_cons_of_mem _ hk)) ha
    · split at H
      · rename_i x hx
        rw [hx] at hc
        exact reach_K hcl n _ _ ids H (fun k hk => (List.mem_append.1 hk).elim (fun hk => ht k (List.mem_cons_of_mem _ hk)) (hc k)) (fun k hk => (List.mem_append.1 hk).elim (ha k) (fun hk => by simp at hk; subst hk; exact ho))
      · cases H
theorem getOs_E (h : AgE K ob ob') : ∀ {l : List Nat}, (∀ k ∈ l, K k) → getOs ob l = getOs ob' l
  | [], _ => rfl
  | o :: r, hl => by simp only [getOs]; rw [h o (hl o (by simp)), getOs_E h (fun k hk => hl k (List.mem_cons_of_mem _ hk))]
theorem ca_LU (Φ : Sem') (h : AgE K ob ob') (hcl : Clo K ob) (hc : c = 4) (d : Nat) (raw : Bool) (f : Nat) {args : List PV} (ha : ∀ k ∈ refsL args, K k) : LU c K ob ob' (ca Φ ob d raw f args) (ca Φ ob' d raw f args) := by
  have e : hand ob raw args = hand ob' raw args := by
    unfold hand
    split
    · rfl
    · exact reifies_F h.f hcl ha
  unfold ca
  rw [← e]
  cases hq : hand ob raw args with
  | none => exact LU.none _
  | some q =>
    obtain ⟨as, bor⟩ := q
    have hb : (∀ k ∈ bor, K k) ∧ ∀ k ∈ refsL as, K k := by
      unfold hand at hq
      split at hq
      · simp only [Option.some.injEq, Prod.mk.injEq] at hq; obtain ⟨rfl, rfl⟩ := hq; exact ⟨fun k hk => by simp at hk, ha⟩
      · exact reifies_L hcl hq ha
    simp only
    rw [← reach_E h hcl 20 (refsL as) [] hb.2]
    cases hr : reach ob 20 (refsL as) [] with
    | none => exact LU.none _
    | some ids =>
      have hids := reach_K hcl 20 _ _ ids hr hb.2 (fun k hk => by simp at hk)
      cases ids with
      | nil =>
        simp only
        cases Φ f as [] with
        | none => exact LU.none _
        | some z => exact back0_LU h.f (by omega) (by omega) d hb.1 _ _
      | cons i0 ids =>
        simp only
        refine LU.ite (fun _ => LU.none _) (fun _ => ?_)
        rw [← getOs_E h hids]
        cases getOs ob (i0 :: ids) with
        | none => exact LU.none _
        | some os =>
          simp only
          cases Φ f (renL (idx (i0 :: ids)) as) (os.map (renO (idx (i0 :: ids)))) with
          | none => exact LU.none _
          | some z => exact back_LU h hc d hb.1 hids _ _
theorem cr_LU (Φ : Sem') (h : AgE K ob ob') (hcl : Clo K ob) (hc : c = 4) (d : Nat) (raw : Bool) (f : Nat) {args : List PV} (ha : ∀ k ∈ refsL args, K k) : LU c K ob ob' (cr Φ ob d raw f args) (cr Φ ob' d raw f args) := by
  have hl := ca_LU (c := c) Φ h hcl hc d raw f ha
  unfold cr
  intro r hr
  cases hq : ca Φ ob d raw f args with
  | none => rw [hq] at hr; simp [crX] at hr
  | some q =>
    rw [hq] at hr
    simp only [crX] at hr
    split at hr
    · rename_i hcc
      injection hr with hr
      subst hr
      obtain ⟨l1, l2⟩ := hl q hq
      have key : ∀ k X, getO q.2 k = some X → getO ob k = some X := fun k X hX => by
        have := hcc.1 k
        rw [getO_app_some hX] at this
        exact this.symm
      refine ⟨fun _ => ?_, Upd.nil⟩
      rw [l1 (fun k hk hn => by
        cases hX : getO q.2 k with
        | none => exact absurd hX hk
        | some X => rw [key k X hX] at hn; cases hn)]
      simp only [crX]
      rw [if_pos]
      refine ⟨fun k => ?_, hcc.2⟩
      cases hX : getO q.2 k with
      | none => rw [getO_app_none hX]
      | some X =>
        rw [getO_app_some hX]
        have hob := key k X hX
        rcases l2 k X hX with h' | ⟨h', _⟩ | ⟨h', _⟩
        · rw [hob] at h'; cases h'
        · rw [← h k h']; exact hob.symm
        · rw [← h k h']; exact hob.symm
    · cases hr
theorem cav_LU (Φ : Sem') (h : AgE K ob ob') (hcl : Clo K ob) (hc : c = 4) (d : Nat) (raw : Bool) {f : PV} {args : List PV} (hf : ∀ k ∈ refs f, K k) (ha : ∀ k ∈ refsL args, K k) : LU c K ob ob' (cav Φ ob d raw f args) (cav Φ ob' d raw f args) := by
  cases f <;> try exact LU.none _
  case fn g fs cs =>
    simp only [refs, List.mem_append] at hf
    refine ca_LU Φ h hcl hc d raw g (fun k hk => ?_)
    simp only [refsL_app, List.mem_append] at hk
    rcases hk with hk | hk | hk
    · exact hf k (.inl hk)
    · exact ha k hk
    · exact hf k (.inr hk)
end
end Go.Proofs.Ytnkapponcbgbhaa
