import Derived.Test.YtnkapponcbgbhaaStepB
set_option linter.all false
namespace Go.Proofs.Ytnkapponcbgbhaa
section
open Go
theorem getO_delO (ids : List Nat) (o : Nat) : ∀ ob : OB, getO (delO ids ob) o = if o ∈ ids then none else getO ob o
  | [] => by simp [delO, getO]
  | x :: r => by
    simp only [delO]
    split
    · rename_i h
      rw [getO_delO ids o r]
      simp only [getO]
      split
      · rfl
      · rename_i hn
        rw [if_neg (fun e => hn (by subst e; simpa using h))]
    · rename_i h
      simp only [getO]
      split
      · rename_i e
        subst e
        rw [if_neg (by simpa using h)]
      · exact getO_delO ids o r
theorem getS_delS (ids : List Nat) (t : Nat) : ∀ sl : SL, getS (delS ids sl) t = .un ∨ (getS (delS ids sl) t = getS sl t ∧ ∀ o ∈ refs (getS sl t), o ∉ ids)
  | [] => .inl rfl
  | x :: r => by
    simp only [delS, getS]
    split
    · split
      · exact .inl rfl
      · rename_i h
        refine .inr ⟨rfl, fun o ho hi => h ?_⟩
        rw [List.any_eq_true]
        exact ⟨o, ho, by simpa using hi⟩
    · exact getS_delS ids t r
section
variable {P : Program} {E : Env} {C : Ctx}
theorem St.del {γ : Gh} {w : World} {tmps : Array Value} {sl : SL} {ob : OB} (S : St C γ w tmps sl ob) (hkp : ∀ k, C.kp k → k < 64) {ids : List Nat} (h64 : ∀ o ∈ ids, 64 ≤ o) (hr : (refsOB (delO ids ob)).any (ids.contains ·) = false) :
    St C { γ with mu := fun o => if o ∈ ids then none else γ.mu o } w tmps (delS ids sl) (delO ids ob) := by
  have mu : ∀ o i, (if o ∈ ids then none else γ.mu o) = some i → o ∉ ids ∧ γ.mu o = some i := by
    intro o i h
    split at h
    · cases h
    · exact ⟨by assumption, h⟩
  have mv : ∀ T : List Nat, (∀ o ∈ T, o ∉ ids) → Mv γ { γ with mu := fun o => if o ∈ ids then none else γ.mu o } w.heap w.heap T (fun o => o) := fun T hT =>
    ⟨fun o ho i hi => ⟨i, by simp only; rw [if_neg (hT o ho)]; exact hi, .inl rfl⟩, fun g b hb => ⟨hb, rfl⟩⟩
  have ob' : ∀ o x, getO (delO ids ob) o = some x → o ∉ ids ∧ getO ob o = some x := by
    intro o x h
    rw [getO_delO] at h
    split at h
    · cases h
    · exact ⟨by assumption, h⟩
  constructor
  · intro t
    rcases getS_delS ids t sl with h | ⟨h, h'⟩
    · rw [h]; exact RV_un
    · rw [h]; exact RAt_mono (mv _ h') (S.slot t)
  · intro o x hx
    obtain ⟨h1, h2⟩ := ob' o x hx
    obtain ⟨i, h3, h4⟩ := S.obj o x h2
    refine ⟨i, by simp only; rw [if_neg h1]; exact h3, ORel_mono (mv _ fun o' ho' hi => ?_) (fun _ _ => rfl) h4⟩
    have := List.any_eq_false.1 hr o' (refsOB_mem hx ho')
    simp at this
    exact this hi
  · intro o i hi
    obtain ⟨h1, h2⟩ := mu o i hi
    obtain ⟨x, hx⟩ := S.dom o i h2
    exact ⟨x, by rw [getO_delO, if_neg h1]; exact hx⟩
  · intro o o' i i' b h1 h2 h3 h4
    exact S.inj o o' i i' b (mu o i h1).2 (mu o' i' h2).2 h3 h4
  · intro o x i b hx hf hi hb
    exact S.unf o x i b (ob' o x hx).2 hf (mu o i hi).2 hb
  · exact fun o i b hi hb => S.own o i b (mu o i hi).2 hb
  · exact S.lt
  · exact S.glob
  · exact S.chg
  · exact S.gn
  · exact S.gnew
  · intro k i hk hi
    obtain ⟨i', h1, h2⟩ := S.kept k i hk hi
    refine ⟨i', ?_, h2⟩
    simp only
    rw [if_neg (fun h => by have := h64 k h; have := hkp k hk; omega)]
    exact h1
  · exact S.imk
  · exact S.imn
  · exact fun o i b hi hb => S.place o i b (mu o i hi).2 hb
  · exact S.fresh
theorem St.rename {γ : Gh} {w : World} {tmps : Array Value} {sl : SL} {ob : OB} (S : St C γ w tmps sl ob) (hkp : ∀ k, C.kp k → k < 64) {b o : Nat} {xb x : Obj'} {a c : List PV} {v : PV} {n : Nat} {s : List Nat} {i' : HI}
    (hb : getO ob b = some xb) (hpu : xb.pu = false) (hel : xb.els = [a ++ v :: c]) (hwd : wd v = 1) (hno : getO ob o = none) (h64 : 64 ≤ o) (hbs : b ∉ s) (hac : ∀ p ∈ refsL a ++ refsL c, p ∉ s) (hs64 : ∀ p ∈ s, 64 ≤ p) (hrefs : (refsOB (delO (b :: s) ob)).any (s.contains ·) = false)
    (hfro : x.fro = false) (hxpu : x.pu = true) (hor : ORel C.fid γ w.heap x i') (hver : i'.ver = 0)
    (hcell : ∀ cs off, RAt C.fid γ w.heap cs off v → ∃ a c, cs[off]? = some (.slice a n c) ∧ HSl i' 0 n a c)
    (hblk : ∀ bb, i'.blk = some bb → ∃ p I X, p ∈ s ∧ γ.mu p = some I ∧ I.blk = some bb ∧ getO ob p = some X ∧ X.fro = false) :
    St C { γ with mu := fun k => if k = o then some i' else if k ∈ s then none else γ.mu k } w tmps (delS s sl) ((o, x) :: (b, { xb with els := [a ++ .sl o 0 0 n :: c] }) :: delO s ob) := by
  have mo : γ.mu o = none := mu_none S hno
  have hbo : b ≠ o := by rintro rfl; rw [hno] at hb; cases hb
  obtain ⟨γ', hγ⟩ : ∃ γ' : Gh, { γ with mu := fun k => if k = o then some i' else if k ∈ s then none else γ.mu k } = γ' := ⟨_, rfl⟩
  have gmu : ∀ k, γ'.mu k = if k = o then some i' else if k ∈ s then none else γ.mu k := fun k => by rw [← hγ]
  have gim : γ'.im = γ.im := by rw [← hγ]
  have ggn : γ'.gn = γ.gn := by rw [← hγ]
  rw [hγ]
  have mv : ∀ T : List Nat, (∀ p ∈ T, p ∉ s) → Mv γ γ' w.heap w.heap T (fun o => o) := fun T hT =>
    ⟨fun p hp i hi => ⟨i, by
      rw [gmu]
      rw [if_neg (fun e => by subst e; rw [mo] at hi; cases hi), if_neg (hT p hp)]
      exact hi, .inl rfl⟩, fun g bb h => ⟨⟨by rw [gim]; exact h.1, fun e => by rw [ggn]; exact h.2 e⟩, rfl⟩⟩
  have mu3 : ∀ k i, γ'.mu k = some i → (k = o ∧ i = i') ∨ (k ≠ o ∧ k ∉ s ∧ γ.mu k = some i) := by
    intro k i h
    rw [gmu] at h
    split at h
    · rename_i e; injection h with h; exact .inl ⟨e, h.symm⟩
    · rename_i e
      split at h
      · cases h
      · rename_i e'; exact .inr ⟨e, e', h⟩
  have ob3 : ∀ k z, getO ((o, x) :: (b, { xb with els := [a ++ .sl o 0 0 n :: c] }) :: delO s ob) k = some z → (k = o ∧ z = x) ∨ (k = b ∧ z = { xb with els := [a ++ .sl o 0 0 n :: c] }) ∨ (k ≠ o ∧ k ≠ b ∧ k ∉ s ∧ getO ob k = some z) := by
    intro k z h
    simp only [getO] at h
    split at h
    · rename_i e; injection h with h; exact .inl ⟨e.symm, h.symm⟩
    · rename_i e
      split at h
      · rename_i e'; injection h with h; exact .inr (.inl ⟨e'.symm, h.symm⟩)
      · rename_i e'
        rw [getO_delO] at h
        split at h
        · cases h
        · rename_i e2; exact .inr (.inr ⟨fun h => e h.symm, fun h => e' h.symm, e2, h⟩)
  have blk' : ∀ bb, i'.blk = some bb → ∃ p I, p ∈ s ∧ γ.mu p = some I ∧ I.blk = some bb := fun bb h => by
    obtain ⟨p, I, X, h1, h2, h3, _⟩ := hblk bb h; exact ⟨p, I, h1, h2, h3⟩
  constructor
  · intro t
    rcases getS_delS s t sl with h | ⟨h, h'⟩
    · rw [h]; exact RV_un
    · rw [h]; exact RAt_mono (mv _ h') (S.slot t)
  · intro k z hz
    rcases ob3 k z hz with ⟨rfl, rfl⟩ | ⟨rfl, rfl⟩ | ⟨h1, h2, h3, h4⟩
    · exact ⟨i', by rw [gmu, if_pos rfl], ORel_mono (mv _ fun p hp => by simp [refsO, hxpu] at hp) (fun _ _ => rfl) hor⟩
    · obtain ⟨ib, hib, g1, g2, g3, g4⟩ := S.obj k xb hb
      refine ⟨ib, by rw [gmu, if_neg hbo, if_neg hbs]; exact hib, g1, g2, by rw [hel] at g3; simpa using g3, ?_⟩
      cases hbk : ib.blk with
      | none =>
        simp only [hbk] at g4
        rw [hel] at g3; simp at g3; omega
      | some bb =>
        simp only [hbk] at g4 ⊢
        obtain ⟨q1, cs, q2, q3, q4⟩ := g4
        refine ⟨q1, cs, q2.els rfl rfl (fun e => by rw [hel] at e; cases e), q3, .inr ⟨hpu, ?_⟩⟩
        rcases q4 with ⟨q4, _⟩ | ⟨_, q5⟩
        · rw [hpu] at q4; cases q4
        · rw [hel] at q5
          simp only [REls, and_true] at q5 ⊢
          obtain ⟨w1, w2⟩ := q5
          rw [RCells_app] at w2 ⊢
          simp only [RCells, hwd] at w2 ⊢
          obtain ⟨r1, ⟨_, r2⟩, r3⟩ := w2
          refine ⟨by rw [wds_app] at w1 ⊢; simp only [wds, hwd] at w1; simpa only [wds, wd] using w1, RCells_mono (mv _ fun p hp => hac p (List.mem_append_left _ hp)) r1, ⟨rfl, ?_⟩, RCells_mono (mv _ fun p hp => hac p (List.mem_append_right _ hp)) r3⟩
          obtain ⟨aa, cc, e1, e2⟩ := hcell cs _ r2
          simp only [RAt]
          exact ⟨i', by rw [gmu, if_pos rfl], Nat.zero_le _, aa, cc, e1, fun _ => e2⟩
    · obtain ⟨i, g1, g2⟩ := S.obj k z h4
      refine ⟨i, by rw [gmu, if_neg h1, if_neg h3]; exact g1, ORel_mono (mv _ fun p hp hps => ?_) (fun _ _ => rfl) g2⟩
      have hz' : getO (delO (b :: s) ob) k = some z := by rw [getO_delO, if_neg (by simp only [List.mem_cons, not_or]; exact ⟨h2, h3⟩)]; exact h4
      have := List.any_eq_false.1 hrefs p (refsOB_mem hz' hp)
      simp at this
      exact this hps
  · intro k i hi
    rcases mu3 k i hi with ⟨rfl, rfl⟩ | ⟨h1, h2, h3⟩
    · exact ⟨x, by simp [getO]⟩
    · obtain ⟨z, hz⟩ := S.dom k i h3
      by_cases e : k = b
      · subst e; exact ⟨_, by simp only [getO, if_true]; rw [if_neg (fun e => hbo e.symm)]⟩
      · exact ⟨z, by simp only [getO]; rw [if_neg (fun e => h1 e.symm), if_neg (fun e' => e e'.symm), getO_delO, if_neg h2]; exact hz⟩
  · intro k k' i i2 bb h1 h2 h3 h4
    rcases mu3 k i h1 with ⟨e1, rfl⟩ | ⟨_, e2, e3⟩ <;> rcases mu3 k' i2 h2 with ⟨f1, rfl⟩ | ⟨_, f2, f3⟩
    · rw [e1, f1]
    · obtain ⟨p, I, g1, g2, g3⟩ := blk' bb h3
      exact absurd (S.inj p k' I i2 bb g2 f3 g3 h4 ▸ g1) f2
    · obtain ⟨p, I, g1, g2, g3⟩ := blk' bb h4
      exact absurd (S.inj p k I i bb g2 e3 g3 h3 ▸ g1) e2
    · exact S.inj k k' i i2 bb e3 f3 h3 h4
  · intro k z i bb hz hf hi hb'
    rw [gim]
    rcases mu3 k i hi with ⟨rfl, rfl⟩ | ⟨e1, e2, e3⟩
    · obtain ⟨p, I, X, g1, g2, g3, g4, g5⟩ := hblk bb hb'
      exact S.unf p X I bb g4 g5 g2 g3
    · rcases ob3 k z hz with ⟨h, _⟩ | ⟨rfl, rfl⟩ | ⟨_, _, _, h4⟩
      · exact absurd h e1
      · exact S.unf k xb i bb hb hf e3 hb'
      · exact S.unf k z i bb h4 hf e3 hb'
  · intro k i bb hi hb'
    rcases mu3 k i hi with ⟨rfl, rfl⟩ | ⟨_, _, e3⟩
    · obtain ⟨p, I, g1, g2, g3⟩ := blk' bb hb'
      exact S.own p I bb g2 g3
    · exact S.own k i bb e3 hb'
  · rw [gim]; exact S.lt
  · intro g xs hg
    obtain ⟨h1, cs, h2, h3⟩ := S.glob g xs hg
    exact ⟨((mv [] (fun p hp => by cases hp)).q true g h1).1, cs, h2, PCells_mono (fun b hb => ⟨((mv [] (fun p hp => by cases hp)).q true b hb).1, rfl⟩) _ _ _ h3⟩
  · exact S.chg
  · rw [ggn]; exact S.gn
  · exact S.gnew
  · intro k i hk hi
    obtain ⟨i2, h1, h2⟩ := S.kept k i hk hi
    have hk64 := hkp k hk
    refine ⟨i2, ?_, h2⟩
    rw [gmu, if_neg (fun e => by omega), if_neg (fun h => by have := hs64 k h; omega)]
    exact h1
  · intro bb hb'
    rw [gim]; exact S.imk bb hb'
  · intro bb hb'
    rw [gim] at hb'; exact S.imn bb hb'
  · intro k i bb hi hb'
    rcases mu3 k i hi with ⟨rfl, rfl⟩ | ⟨_, _, e3⟩
    · obtain ⟨p, I, g1, g2, g3⟩ := blk' bb hb'
      rcases S.place p I bb g2 g3 with ⟨h, _⟩ | h
      · have := hs64 p g1; omega
      · exact .inr h
    · exact S.place k i bb e3 hb'
  · exact S.fresh
theorem St.sameOb {γ : Gh} {w : World} {tmps : Array Value} {sl : SL} {ob ob' : OB} (S : St C γ w tmps sl ob) (h : ∀ k, getO ob' k = getO ob k) : St C γ w tmps sl ob' :=
  { S with
    obj := fun o x hx => S.obj o x (by rw [← h]; exact hx)
    dom := fun o i hi => by obtain ⟨x, hx⟩ := S.dom o i hi; exact ⟨x, by rw [h]; exact hx⟩
    unf := fun o x i b hx => S.unf o x i b (by rw [← h]; exact hx) }
theorem del_same (o b : Nat) (x y : Obj') (s : List Nat) (ob : OB) (k : Nat) : getO ((o, x) :: (b, y) :: delO (b :: s) ob) k = getO ((o, x) :: (b, y) :: delO s ob) k := by
  simp only [getO]
  split
  · rfl
  · split
    · rfl
    · rename_i h1 h2
      rw [getO_delO, getO_delO]
      by_cases e : k ∈ s
      · rw [if_pos e, if_pos (List.mem_cons_of_mem _ e)]
      · rw [if_neg e, if_neg (by simp only [List.mem_cons, not_or]; exact ⟨fun e' => h2 e'.symm, e⟩)]
theorem renE_ok {γ : Gh} {w : World} {tmps : Array Value} {sl : SL} {ob : OB} (S : St C γ w tmps sl ob) (hkp : ∀ k, C.kp k → k < 64) {b o wdt : Nat} {xb : Obj'} {a c : List PV} {v : PV} (hb : getO ob b = some xb) (hpu : xb.pu = false) (hel : xb.els = [a ++ v :: c]) (hwd : wd v = 1) {y : SL × OB}
    (H : renE sl ob b o xb a c (asR ob wdt v) = some y) : ∃ γ', St C γ' w tmps y.1 y.2 := by
  unfold renE at H
  split at H
  case h_2 => cases H
  rename_i q hq
  split at H
  case isFalse => cases H
  rename_i hc
  obtain ⟨hno, h64, hbs, hac, hrefs⟩ := hc
  injection H with H
  subst H
  obtain ⟨x, n, s⟩ := q
  simp only at hbs hac hrefs ⊢
  have hbs' : b ∉ s := by simpa using hbs
  have hac' : ∀ p ∈ refsL a ++ refsL c, p ∉ s := fun p hp => by have := List.any_eq_false.1 hac p hp; simpa using this
  unfold asR at hq
  split at hq
  · simp only [Option.some.injEq, Prod.mk.injEq] at hq
    obtain ⟨rfl, rfl, rfl⟩ := hq
    exact ⟨_, St.sameOb (ob := _ :: _ :: delO [] ob) (S.rename (x := row [] wdt true) (i' := ⟨0, none, wdt, 0⟩) hkp hb hpu hel hwd hno h64 hbs' hac' (fun p hp => by cases hp) hrefs rfl rfl ⟨rfl, fun c h => by simp [row] at h, by simp [row], rfl⟩ rfl
      (fun cs off h => by
        simp only [RAt] at h
        obtain ⟨aa, e, _⟩ := h
        exact ⟨aa, 0, e, rfl, Nat.le_refl _, fun hh => by omega⟩) (fun bb h => by cases h)) (del_same _ _ _ _ _ _)⟩
  · rename_i o' ver lo n'
    cases hX : getO ob o' with
    | none => simp [hX] at hq
    | some X =>
      simp only [hX] at hq
      split at hq
      · rename_i hcc
        obtain ⟨c0, c1, c2, c3, c4, rfl, rfl⟩ := hcc
        simp only [Option.some.injEq, Prod.mk.injEq] at hq
        obtain ⟨rfl, rfl, rfl⟩ := hq
        obtain ⟨I, hI, q1, q2, q3, q4⟩ := S.obj o' X hX
        exact ⟨_, St.sameOb (ob := _ :: _ :: delO [o'] ob) (S.rename (x := { X with ver := 0, cap := none }) (i' := { I with ver := 0 }) hkp hb hpu hel hwd hno h64 hbs' hac' (fun p hp => by simp at hp; omega) hrefs c2 c1 ⟨rfl, (fun c h => by cases h), q3, q4⟩ rfl
          (fun cs off h => by
            simp only [RAt] at h
            obtain ⟨I', hI', hvv, aa, cc, e, hh⟩ := h
            rw [hI] at hI'; injection hI' with hI'; subst hI'
            obtain ⟨g1, g2, g3⟩ := hh (by omega)
            exact ⟨aa, cc, e, g1, g2, g3⟩) (fun bb h => ⟨o', I, X, by simp, hI, h, hX, c2⟩)) (del_same _ _ _ _ _ _)⟩
      · cases hq
  · cases hq
theorem renC_ok {γ : Gh} {w : World} {tmps : Array Value} {sl : SL} {ob : OB} (S : St C γ w tmps sl ob) (hkp : ∀ k, C.kp k → k < 64) {x : CC} {y : SL × OB} (H : renC x sl ob = some y) : ∃ γ', St C γ' w tmps y.1 y.2 := by
  obtain ⟨b, off, o, wdt⟩ := x
  simp only [renC] at H
  unfold renX at H
  split at H
  case h_2 => cases H
  rename_i xb hb
  split at H
  case isFalse => cases H
  rename_i hpu
  split at H
  case h_2 => cases H
  rename_i el hel
  unfold renA at H
  split at H
  case h_2 => cases H
  rename_i a v c ha hc
  have he : el = a ++ v :: c := (takeW_dropW ha hc).1
  split at H
  · injection H with H; subst H; exact ⟨γ, S⟩
  · split at H
    case isFalse => cases H
    rename_i hcc
    obtain ⟨hwd, h64, hbo, hrefs⟩ := hcc
    have S1 := S.del hkp (ids := [o]) (fun p hp => by simp at hp; omega) hrefs
    refine renE_ok S1 hkp (by rw [getO_delO, if_neg (by simpa using hbo)]; exact hb) hpu (by rw [hel, he]) hwd H
theorem renCs_ok {w : World} {tmps : Array Value} (hkp : ∀ k, C.kp k → k < 64) : ∀ (cs : List CC) {γ : Gh} {sl : SL} {ob : OB} {y : SL × OB}, St C γ w tmps sl ob → renCs cs sl ob = some y → ∃ γ', St C γ' w tmps y.1 y.2
  | [], γ, sl, ob, y, S, H => by
    simp only [renCs, Option.some.injEq] at H
    subst H
    exact ⟨γ, S⟩
  | c :: r, γ, sl, ob, y, S, H => by
    simp only [renCs] at H
    obtain ⟨z, hz, H⟩ := bnd_some H
    obtain ⟨γ1, S1⟩ := renC_ok S hkp hz
    exact renCs_ok hkp r S1 H
theorem headH_ok (hkp : ∀ k, C.kp k → k < 64) {γ : Gh} {w : World} {tmps : Array Value} {sl : SL} {ob : OB} (S : St C γ w tmps sl ob) {h : Hd} {x : SL × OB} (H : headH h sl ob = some x) : ∃ γ', St C γ' w tmps x.1 x.2 := by
  unfold headH at H
  obtain ⟨y, hy, H⟩ := bnd_some H
  have S0 : St C γ w tmps (keepS sl h.ts) ob := by
    refine { S with slot := fun t => ?_ }
    rcases keepS_get sl h.ts t with e | e
    · rw [e]; exact S.slot t
    · rw [e]; exact RV_un
  obtain ⟨γ1, S1⟩ := renCs_ok hkp h.cs S0 hy
  exact head_ok' hkp S1 H
theorem renC_slot {x : CC} {sl : SL} {ob : OB} {y : SL × OB} (H : renC x sl ob = some y) (t : Nat) : getS y.1 t = getS sl t ∨ getS y.1 t = .un := by
  obtain ⟨b, off, o, wdt⟩ := x
  simp only [renC] at H
  unfold renX at H
  split at H
  case h_2 => cases H
  split at H
  case isFalse => cases H
  split at H
  case h_2 => cases H
  unfold renA at H
  split at H
  case h_2 => cases H
  split at H
  · injection H with H; subst H; exact .inl rfl
  · split at H
    case isFalse => cases H
    unfold renE at H
    split at H
    case h_2 => cases H
    rename_i q _
    split at H
    case isFalse => cases H
    injection H with H
    subst H
    rcases getS_delS q.2.2 t (delS [o] sl) with h | ⟨h, _⟩
    · exact .inr h
    · rcases getS_delS [o] t sl with h' | ⟨h', _⟩
      · exact .inr (h.trans h')
      · exact .inl (h.trans h')
theorem renCs_slot : ∀ (cs : List CC) {sl : SL} {ob : OB} {y : SL × OB}, renCs cs sl ob = some y → ∀ t, getS y.1 t = getS sl t ∨ getS y.1 t = .un
  | [], sl, ob, y, H, t => by
    simp only [renCs, Option.some.injEq] at H
    subst H
    exact .inl rfl
  | c :: r, sl, ob, y, H, t => by
    simp only [renCs] at H
    obtain ⟨z, hz, H⟩ := bnd_some H
    rcases renCs_slot r H t with h | h
    · rcases renC_slot hz t with h' | h'
      · exact .inl (h.trans h')
      · exact .inr (h.trans h')
    · exact .inr h
end
end
section
open Go
theorem refsL_app : ∀ (a b : List PV), refsL (a ++ b) = refsL a ++ refsL b
  | [], b => rfl
  | v :: r, b => by simp only [List.cons_append, refsL, refsL_app r b, List.append_assoc]
def frz1 (x : Obj') : Obj' := { x with fro := true }
def sameF (a b : Option Obj') : Prop := a.map frz1 = b.map frz1
theorem sameF.refl (a : Option Obj') : sameF a a := rfl
theorem sameF.of_eq {a b : Option Obj'} (h : a = b) : sameF a b := by rw [h]; rfl
theorem sameF_cases {a b : Option Obj'} (h : sameF a b) : (a = none ∧ b = none) ∨ ∃ x y, a = some x ∧ b = some y ∧ x.els = y.els ∧ x.w = y.w ∧ x.pu = y.pu ∧ x.g = y.g ∧ x.cap = y.cap ∧ x.ver = y.ver := by
  cases a with
  | none => cases b with
    | none => exact .inl ⟨rfl, rfl⟩
    | some y => simp [sameF] at h
  | some x => cases b with
    | none => simp [sameF] at h
    | some y =>
      simp only [sameF, Option.map_some, Option.some.injEq, frz1, Obj'.mk.injEq] at h
      exact .inr ⟨x, y, rfl, rfl, h.1, h.2.1, h.2.2.1, h.2.2.2.1, h.2.2.2.2.1, h.2.2.2.2.2.1⟩
theorem sameF_mp {x y : Obj'} (h : sameF (some x) (some y)) : x.mp = y.mp := by
  simp only [sameF, Option.map_some, Option.some.injEq, frz1, Obj'.mk.injEq] at h
  exact h.2.2.2.2.2.2.2
section
variable {a b : Option Obj'} (h : sameF a b)
include h
theorem atO_F (ver i off : Nat) : atO a ver i off = atO b ver i off := by
  rcases sameF_cases h with ⟨rfl, rfl⟩ | ⟨x, y, rfl, rfl, h1, h2, h3, h4, h5, h6⟩
  · rfl
  · simp only [atO, h1, h3, h4, h6]
theorem contX_F (ver lo n : Nat) : contX a ver lo n = contX b ver lo n := by
  rcases sameF_cases h with ⟨rfl, rfl⟩ | ⟨x, y, rfl, rfl, h1, h2, h3, h4, h5, h6⟩
  · rfl
  · simp only [contX, h1, h3, h4, h6]
theorem xSO_F (o ver lo n w : Nat) (i : Int) : xSO o ver lo n w i a = xSO o ver lo n w i b := by
  rcases sameF_cases h with ⟨rfl, rfl⟩ | ⟨x, y, rfl, rfl, h1, h2, h3, h4, h5, h6⟩
  · rfl
  · simp only [xSO, h1, h2, h6]
theorem eNX_F (neg : Bool) (ver lo n : Nat) : eNX neg ver lo n a = eNX neg ver lo n b := by
  rcases sameF_cases h with ⟨rfl, rfl⟩ | ⟨x, y, rfl, rfl, h1, h2, h3, h4, h5, h6⟩
  · rfl
  · simp only [eNX, h1, h6]
theorem cpO_F (ver lo : Nat) : cpO ver lo a = cpO ver lo b := by
  rcases sameF_cases h with ⟨rfl, rfl⟩ | ⟨x, y, rfl, rfl, h1, h2, h3, h4, h5, h6⟩
  · rfl
  · simp only [cpO, h5, h6]
theorem slO_F (o ver lo w : Nat) (l r : Option Int) : slO o ver lo w a l r none = slO o ver lo w b l r none := by
  rcases sameF_cases h with ⟨rfl, rfl⟩ | ⟨x, y, rfl, rfl, h1, h2, h3, h4, h5, h6⟩
  · cases l <;> cases r <;> rfl
  · cases l <;> cases r <;> simp only [slO, h1, h2, h6]
theorem refsX_F : refsX a = refsX b := by
  rcases sameF_cases h with ⟨rfl, rfl⟩ | ⟨x, y, rfl, rfl, h1, h2, h3, h4, h5, h6⟩
  · rfl
  · simp only [refsX, refsO, h1, h3]
end
def AgF (K : Nat → Prop) (ob ob' : OB) : Prop := ∀ k, K k → sameF (getO ob k) (getO ob' k)
def AgE (K : Nat → Prop) (ob ob' : OB) : Prop := ∀ k, K k → getO ob k = getO ob' k
theorem AgE.f {K : Nat → Prop} {ob ob' : OB} (h : AgE K ob ob') : AgF K ob ob' := fun k hk => sameF.of_eq (h k hk)
def Clo (K : Nat → Prop) (ob : OB) : Prop := ∀ k, K k → ∀ j ∈ refsX (getO ob k), K j
section
variable {K : Nat → Prop} {ob ob' : OB}
theorem contL_F (h : AgF K ob ob') {v : PV} (hv : ∀ k ∈ refs v, K k) : contL ob v = contL ob' v := by
  cases v <;> simp only [contL]
  case sl o ver lo n => exact contX_F (h o (hv o (by simp [refs]))) _ _ _
  case bs o off lo n => rw [atO_F (h o (hv o (by simp [refs])))]
theorem cont_F (h : AgF K ob ob') {v : PV} (hv : ∀ k ∈ refs v, K k) : cont ob v = cont ob' v := by
  cases v <;> simp only [cont] <;> exact contL_F h hv
theorem mplX_F {a b : Option Obj'} (h : sameF a b) (n : Int) (k : IntKind) (z : List PV) : mplX n k z a = mplX n k z b := by
  rcases sameF_cases h with ⟨rfl, rfl⟩ | ⟨x, y, rfl, rfl, h1, h2, h3, h4, h5, h6⟩
  · rfl
  · have h7 := sameF_mp h
    have e : mpo x = mpo y := by unfold mpo; rw [h3, h7]
    simp only [mplX, e, h6]
theorem mpl_F (h : AgF K ob ob') (k : IntKind) (z : List PV) {v : PV} (u : PV) (hv : ∀ k ∈ refs v, K k) : mpl ob k z v u = mpl ob' k z v u := by
  unfold mpl
  split
  · rename_i o k' n
    rw [mplX_F (h o (hv o (by simp [refs])))]
  · rfl
theorem l1_F (h : AgF K ob ob') {v : PV} (hv : ∀ k ∈ refs v, K k) : l1 ob v = l1 ob' v := by
  cases v <;> try rfl
  case p o ver i off bi => cases bi <;> simp only [l1] <;> rw [atO_F (h o (hv o (by simp [refs])))]
  case q g xs bi => cases bi <;> rfl
theorem lN_F (h : AgF K ob ob') (n : Nat) {v : PV} (hv : ∀ k ∈ refs v, K k) : lN ob n v = lN ob' n v := by
  unfold lN
  cases v <;> try rfl
  case p o ver i off bi =>
    cases bi with
    | none => simp only [atP]; rw [atO_F (h o (hv o (by simp [refs])))]
    | some k => rfl
  case q g xs bi => cases bi <;> rfl
theorem eNs_F (h : AgF K ob ob') (neg : Bool) {v : PV} (hv : ∀ k ∈ refs v, K k) : eNs neg ob v = eNs neg ob' v := by
  cases v <;> try rfl
  case sl o ver lo n => simp only [eNs]; exact eNX_F (h o (hv o (by simp [refs]))) _ _ _ _
theorem b2s_F (h : AgF K ob ob') {v : PV} (hv : ∀ k ∈ refs v, K k) : b2s ob v = b2s ob' v := by unfold b2s; rw [contL_F h hv]
theorem xS_F (h : AgF K ob ob') (w : Nat) {v i : PV} (hv : ∀ k ∈ refs v, K k) : xS ob w v i = xS ob' w v i := by
  cases v <;> try (cases i <;> rfl)
  case sl o ver lo n => cases i <;> simp only [xS]; exact xSO_F (h o (hv o (by simp [refs]))) _ _ _ _ _ _
theorem cp_F (h : AgF K ob ob') {v : PV} (hv : ∀ k ∈ refs v, K k) : cp ob v = cp ob' v := by
  cases v <;> try rfl
  case sl o ver lo n => simp only [cp]; exact cpO_F (h o (hv o (by simp [refs]))) _ _
theorem slc_arr (ob ob' : OB) (n : Nat) (v : PV) (lo hi mx : Option PV) : slc ob (.arr n) v lo hi mx = slc ob' (.arr n) v lo hi mx := by
  cases v <;> try rfl
  case p o ver i off bi => rcases ver with _ | ver <;> rcases i with _ | i <;> cases bi <;> cases mx <;> rfl
theorem slc_F (h : AgF K ob ob') (k : SK) {v : PV} (lo hi : Option PV) (hv : ∀ k ∈ refs v, K k) : slc ob k v lo hi none = slc ob' k v lo hi none := by
  cases k
  case arr n => exact slc_arr ..
  case str => cases v <;> rfl
  case slice w =>
  cases v <;> try rfl
  case sl o ver l n => simp only [slc, Option.map_none]; exact slO_F (h o (hv o (by simp [refs]))) _ _ _ _ _ _
theorem slc_E (h : AgE K ob ob') (k : SK) {v : PV} (lo hi mx : Option PV) (hv : ∀ k ∈ refs v, K k) : slc ob k v lo hi mx = slc ob' k v lo hi mx := by
  cases k
  case arr n => exact slc_arr ..
  case str => cases v <;> cases mx <;> rfl
  case slice w =>
  cases v <;> try (cases mx <;> rfl)
  case sl o ver l n => simp only [slc]; rw [h o (hv o (by simp [refs]))]
theorem reify0_F (h : AgF K ob ob') {v : PV} (hv : ∀ k ∈ refs v, K k) : reify0 ob v = reify0 ob' v := by
  cases v <;> try rfl
  case sl o ver lo n => simp only [reify0]; rw [contX_F (h o (hv o (by simp [refs])))]
  case bs o off lo n => simp only [reify0]; rw [contL_F h hv]
theorem reifyL_F (h : AgF K ob ob') : ∀ {l : List PV}, (∀ k ∈ refsL l, K k) → reifyL ob l = reifyL ob' l
  | [], _ => rfl
  | v :: r, hv => by
    simp only [refsL] at hv
    simp only [reifyL]
    rw [reify0_F h (fun k hk => hv k (List.mem_append_left _ hk)), reifyL_F h (fun k hk => hv k (List.mem_append_right _ hk))]
theorem reifyEls_F (h : AgF K ob ob') : ∀ {l : List (List PV)}, (∀ k ∈ refsEls l, K k) → reifyEls ob l = reifyEls ob' l
  | [], _ => rfl
  | v :: r, hv => by
    simp only [refsEls] at hv
    simp only [reifyEls]
    rw [reifyL_F h (fun k hk => hv k (List.mem_append_left _ hk)), reifyEls_F h (fun k hk => hv k (List.mem_append_right _ hk))]
theorem refsEls_drop {k : Nat} : ∀ {l : List (List PV)} {n : Nat}, k ∈ refsEls (l.drop n) → k ∈ refsEls l
  | l, 0, hk => by simpa using hk
  | [], n + 1, hk => by simpa using hk
  | x :: r, n + 1, hk => by
    simp only [List.drop_succ_cons] at hk
    simp only [refsEls]; exact List.mem_append_right _ (refsEls_drop hk)
theorem refsEls_take {k : Nat} : ∀ {l : List (List PV)} {n : Nat}, k ∈ refsEls (l.take n) → k ∈ refsEls l
  | l, 0, hk => by simp [refsEls] at hk
  | [], n + 1, hk => by simp [refsEls] at hk
  | x :: r, n + 1, hk => by
    simp only [List.take_succ_cons, refsEls, List.mem_append] at hk
    simp only [refsEls]
    rcases hk with hk | hk
    · exact List.mem_append_left _ hk
    · exact List.mem_append_right _ (refsEls_take hk)
theorem reify1_F (h : AgF K ob ob') {v : PV} (hv : ∀ k ∈ refs v, K k) : reify1 ob v = reify1 ob' v := by
  cases v <;> simp only [reify1] <;> first | exact reify0_F h hv | skip
  case agg cs => rw [reifyL_F h (by simpa only [refs] using hv)]
theorem reify_F (h : AgF K ob ob') (hc : Clo K ob) {v : PV} (hv : ∀ k ∈ refs v, K k) : reify ob v = reify ob' v := by
  cases v <;> simp only [reify] <;> first | exact reify0_F h hv | skip
  case agg cs => rw [reifyL_F h (by simpa only [refs] using hv)]
  case sl o ver lo n =>
    have ho := hv o (by simp [refs])
    have hcl := hc o ho
    rcases sameF_cases (h o ho) with ⟨e1, e2⟩ | ⟨x, y, e1, e2, h1, h2, h3, h4, h5, h6⟩
    · rw [e1, e2]
    · rw [e1] at hcl
      rw [e1, e2]
      simp only [h3, h6, h1]
      split
      · exact reify0_F h hv
      · rename_i hp
        rw [reifyEls_F h (l := (y.els.drop lo).take n) (fun k hk => hcl k ?_)]
        simp only [refsX, refsO]
        rw [if_neg (by rw [h3]; exact hp), h1]
        exact refsEls_drop (refsEls_take hk)
theorem reifies_F (h : AgF K ob ob') (hc : Clo K ob) : ∀ {l : List PV}, (∀ k ∈ refsL l, K k) → reifies ob l = reifies ob' l
  | [], _ => rfl
  | v :: r, hv => by
    simp only [refsL] at hv
    simp only [reifies]
    rw [reify_F h hc (fun k hk => hv k (List.mem_append_left _ hk)), reifies_F h hc (fun k hk => hv k (List.mem_append_right _ hk))]
theorem reifies1_F (h : AgF K ob ob') : ∀ {l : List PV}, (∀ k ∈ refsL l, K k) → reifies1 ob l = reifies1 ob' l
  | [], _ => rfl
  | v :: r, hv => by
    simp only [refsL] at hv
    simp only [reifies1]
    rw [reify1_F h (fun k hk => hv k (List.mem_append_left _ hk)), reifies1_F h (fun k hk => hv k (List.mem_append_right _ hk))]
theorem reify0_L {v : PV} {q : PV × List Nat} (H : reify0 ob v = some q) (hv : ∀ k ∈ refs v, K k) : (∀ k ∈ q.2, K k) ∧ ∀ k ∈ refs q.1, K k := by
  cases v <;> simp only [reify0] at H
  case sl o ver lo n =>
    cases hx : contX (getO ob o) ver lo n with
    | none => simp [hx] at H
    | some r => simp only [hx, Option.map_some, Option.some.injEq] at H; subst H; exact ⟨fun k hk => hv k (by simpa [refs] using hk), fun k hk => by simp [refs] at hk⟩
  case bs o off lo n =>
    cases hx : contL ob (.bs o off lo n) with
    | none => simp [hx] at H
    | some r => simp only [hx, Option.map_some, Option.some.injEq] at H; subst H; exact ⟨fun k hk => hv k (by simpa [refs] using hk), fun k hk => by simp [refs] at hk⟩
  all_goals (injection H with H; subst H)
  all_goals first
    | exact ⟨fun k hk => by simp at hk, hv⟩
    | exact ⟨fun k hk => by simp at hk, fun k hk => by simp [refs] at hk⟩
theorem reifyL_L : ∀ {l : List PV} {q : List PV × List Nat}, reifyL ob l = some q → (∀ k ∈ refsL l, K k) → (∀ k ∈ q.2, K k) ∧ ∀ k ∈ refsL q.1, K k
  | [], q, H, _ => by simp only [reifyL, Option.some.injEq] at H; subst H; exact ⟨fun k hk => by simp at hk, fun k hk => by simp [refsL] at hk⟩
  | v :: r, q, H, hv => by
    simp only [refsL] at hv
    simp only [reifyL] at H
    split at H
    · rename_i a b ha hb
      injection H with H; subst H
      obtain ⟨g1, g2⟩ := reify0_L ha (fun k hk => hv k (List.mem_append_left _ hk))
      obtain ⟨g3, g4⟩ := reifyL_L hb (fun k hk => hv k (List.mem_append_right _ hk))
      exact ⟨fun k hk => (List.mem_append.1 hk).elim (g1 k) (g3 k), fun k hk => by simp only [refsL] at hk; exact (List.mem_append.1 hk).elim (g2 k) (g4 k)⟩
    · cases H
theorem reifyEls_L : ∀ {l : List (List PV)} {q : List (List PV) × List Nat}, reifyEls ob l = some q → (∀ k ∈ refsEls l, K k) → ∀ k ∈ q.2, K k
  | [], q, H, _ => by simp only [reifyEls, Option.some.injEq] at H; subst H; exact fun k hk => by simp at hk
  | v :: r, q, H, hv => by
    simp only [refsEls] at hv
    simp only [reifyEls] at H
    split at H
    · rename_i a b ha hb
      injection H with H; subst H
      have g1 := (reifyL_L ha (fun k hk => hv k (List.mem_append_left _ hk))).1
      have g3 := reifyEls_L hb (fun k hk => hv k (List.mem_append_right _ hk))
      exact fun k hk => (List.mem_append.1 hk).elim (g1 k) (g3 k)
    · cases H
theorem reify1_L {v : PV} {q : PV × List Nat} (H : reify1 ob v = some q) (hv : ∀ k ∈ refs v, K k) : (∀ k ∈ q.2, K k) ∧ ∀ k ∈ refs q.1, K k := by
  unfold reify1 at H
  split at H
  · rename_i cs
    cases hx : reifyL ob cs with
    | none => simp [hx] at H
    | some r =>
      simp only [hx, Option.map_some, Option.some.injEq] at H; subst H
      simpa only [refs] using reifyL_L hx (by simpa only [refs] using hv)
  · exact reify0_L H hv
theorem reify_L (hc : Clo K ob) {v : PV} {q : PV × List Nat} (H : reify ob v = some q) (hv : ∀ k ∈ refs v, K k) : (∀ k ∈ q.2, K k) ∧ ∀ k ∈ refs q.1, K k := by
  unfold reify at H
  split at H
  · rename_i cs
    cases hx : reifyL ob cs with
    | none => simp [hx] at H
    | some r =>
      simp only [hx, Option.map_some, Option.some.injEq] at H; subst H
      simpa only [refs] using reifyL_L hx (by simpa only [refs] using hv)
  · rename_i o ver lo n
    have ho := hv o (by simp [refs])
    have hcl := hc o ho
    cases hx : getO ob o with
    | none => simp [hx] at H
    | some x =>
      rw [hx] at hcl
      simp only [hx] at H
      split at H
      · exact reify0_L H hv
      · rename_i hp
        split at H
        · cases hre : reifyEls ob ((x.els.drop lo).take n) with
          | none => simp [hre] at H
          | some r =>
            simp only [hre, Option.bind_some] at H
            split at H
            · injection H with H; subst H
              have := reifyEls_L (K := K) hre (fun k hk => hcl k (by
                simp only [refsX, refsO]
                rw [if_neg hp]
                exact refsEls_drop (refsEls_take hk)))
              exact ⟨fun k hk => (List.mem_cons.1 hk).elim (fun e => e ▸ ho) (this k), fun k hk => by simp [refs] at hk⟩
            · cases H
        · cases H
  · exact reify0_L H hv
theorem reifies_L (hc : Clo K ob) : ∀ {l : List PV} {q : List PV × List Nat}, reifies ob l = some q → (∀ k ∈ refsL l, K k) → (∀ k ∈ q.2, K k) ∧ ∀ k ∈ refsL q.1, K k
  | [], q, H, _ => by simp only [reifies, Option.some.injEq] at H; subst H; exact ⟨fun k hk => by simp at hk, fun k hk => by simp [refsL] at hk⟩
  | v :: r, q, H, hv => by
    simp only [refsL] at hv
    simp only [reifies] at H
    split at H
    · rename_i a b ha hb
      injection H with H; subst H
      obtain ⟨g1, g2⟩ := reify_L hc ha (fun k hk => hv k (List.mem_append_left _ hk))
      obtain ⟨g3, g4⟩ := reifies_L hc hb (fun k hk => hv k (List.mem_append_right _ hk))
      exact ⟨fun k hk => (List.mem_append.1 hk).elim (g1 k) (g3 k), fun k hk => by simp only [refsL] at hk; exact (List.mem_append.1 hk).elim (g2 k) (g4 k)⟩
    · cases H
theorem reifies1_L : ∀ {l : List PV} {q : List PV × List Nat}, reifies1 ob l = some q → (∀ k ∈ refsL l, K k) → (∀ k ∈ q.2, K k) ∧ ∀ k ∈ refsL q.1, K k
  | [], q, H, _ => by simp only [reifies1, Option.some.injEq] at H; subst H; exact ⟨fun k hk => by simp at hk, fun k hk => by simp [refsL] at hk⟩
  | v :: r, q, H, hv => by
    simp only [refsL] at hv
    simp only [reifies1] at H
    split at H
    · rename_i a b ha hb
      injection H with H; subst H
      obtain ⟨g1, g2⟩ := reify1_L ha (fun k hk => hv k (List.mem_append_left _ hk))
      obtain ⟨g3, g4⟩ := reifies1_L hb (fun k hk => hv k (List.mem_append_right _ hk))
      exact ⟨fun k hk => (List.mem_append.1 hk).elim (g1 k) (g3 k), fun k hk => by simp only [refsL] at hk; exact (List.mem_append.1 hk).elim (g2 k) (g4 k)⟩
    · cases H
end
end
end Go.Proofs.Ytnkapponcbgbhaa
