/-
  Loops' heads: rows in cells.
-/
import Derived.Test.YtcimkkcajkmfoaaDoorHeadA
set_option linter.all false
namespace Go.Proofs.YtcimkkcajkmfoaaDoor
open Go

theorem getO_delO (ids : List Nat) (o : Nat) : ∀ ob : OB, getO (delO ids ob) o = if o ∈ ids then none else getO ob o
  | [] => by simp [delO, getO]
  | x :: r => by
    simp only [delO]
    split
    · rename_i h
      rw [getO_delO ids o r]
      simp only [getO]
      split
      · rfl
      · rename_i hn
        rw [if_neg (fun e => hn (by subst e; simpa using h))]
    · rename_i h
      simp only [getO]
      split
      · rename_i e
        subst e
        rw [if_neg (by simpa using h)]
      · exact getO_delO ids o r
theorem getS_delS (ids : List Nat) (t : Nat) : ∀ sl : SL, getS (delS ids sl) t = .un ∨ (getS (delS ids sl) t = getS sl t ∧ ∀ o ∈ refs (getS sl t), o ∉ ids)
  | [] => .inl rfl
  | x :: r => by
    simp only [delS, getS]
    split
    · split
      · exact .inl rfl
      · rename_i h
        refine .inr ⟨rfl, fun o ho hi => h ?_⟩
        rw [List.any_eq_true]
        exact ⟨o, ho, by simpa using hi⟩
    · exact getS_delS ids t r
section
variable {P : Program} {E : Env} {C : Ctx}
/-- Objects are given away. -/
theorem St.del {γ : Gh} {w : World} {tmps : Array Value} {sl : SL} {ob : OB} (S : St C γ w tmps sl ob) (hkp : ∀ k, C.kp k → k < 64) {ids : List Nat} (h64 : ∀ o ∈ ids, 64 ≤ o) (hr : (refsOB (delO ids ob)).any (ids.contains ·) = false) :
    St C { γ with mu := fun o => if o ∈ ids then none else γ.mu o } w tmps (delS ids sl) (delO ids ob) := by
  have mu : ∀ o i, (if o ∈ ids then none else γ.mu o) = some i → o ∉ ids ∧ γ.mu o = some i := by
    intro o i h
    split at h
    · cases h
    · exact ⟨by assumption, h⟩
  have mv : ∀ T : List Nat, (∀ o ∈ T, o ∉ ids) → Mv γ { γ with mu := fun o => if o ∈ ids then none else γ.mu o } w.heap w.heap T (fun o => o) := fun T hT =>
    ⟨fun o ho i hi => ⟨i, by simp only; rw [if_neg (hT o ho)]; exact hi, .inl rfl⟩, fun g b hb => ⟨hb, rfl⟩⟩
  have ob' : ∀ o x, getO (delO ids ob) o = some x → o ∉ ids ∧ getO ob o = some x := by
    intro o x h
    rw [getO_delO] at h
    split at h
    · cases h
    · exact ⟨by assumption, h⟩
  constructor
  · intro t
    rcases getS_delS ids t sl with h | ⟨h, h'⟩
    · rw [h]; exact RV_un
    · rw [h]; exact RAt_mono (mv _ h') (S.slot t)
  · intro o x hx
    obtain ⟨h1, h2⟩ := ob' o x hx
    obtain ⟨i, h3, h4⟩ := S.obj o x h2
    refine ⟨i, by simp only; rw [if_neg h1]; exact h3, ORel_mono (mv _ fun o' ho' hi => ?_) (fun _ _ => rfl) h4⟩
    have := List.any_eq_false.1 hr o' (refsOB_mem hx ho')
    simp at this
    exact this hi
  · intro o i hi
    obtain ⟨h1, h2⟩ := mu o i hi
    obtain ⟨x, hx⟩ := S.dom o i h2
    exact ⟨x, by rw [getO_delO, if_neg h1]; exact hx⟩
  · intro o o' i i' b h1 h2 h3 h4
    exact S.inj o o' i i' b (mu o i h1).2 (mu o' i' h2).2 h3 h4
  · intro o x i b hx hf hi hb
    exact S.unf o x i b (ob' o x hx).2 hf (mu o i hi).2 hb
  · exact fun o i b hi hb => S.own o i b (mu o i hi).2 hb
  · exact S.lt
  · exact S.glob
  · exact S.chg
  · exact S.gn
  · exact S.gnew
  · intro k i hk hi
    obtain ⟨i', h1, h2⟩ := S.kept k i hk hi
    refine ⟨i', ?_, h2⟩
    simp only
    rw [if_neg (fun h => by have := h64 k h; have := hkp k hk; omega)]
    exact h1
  · exact S.imk
  · exact S.imn
  · exact fun o i b hi hb => S.place o i b (mu o i hi).2 hb
  · exact S.fresh
/-- A cell's row becomes the object o. -/
theorem St.rename {γ : Gh} {w : World} {tmps : Array Value} {sl : SL} {ob : OB} (S : St C γ w tmps sl ob) (hkp : ∀ k, C.kp k → k < 64) {b o : Nat} {xb x : Obj'} {a c : List PV} {v : PV} {n : Nat} {s : List Nat} {i' : HI}
    (hb : getO ob b = some xb) (hpu : xb.pu = false) (hel : xb.els = [a ++ v :: c]) (hwd : wd v = 1) (hno : getO ob o = none) (h64 : 64 ≤ o) (hbs : b ∉ s) (hac : ∀ p ∈ refsL a ++ refsL c, p ∉ s) (hs64 : ∀ p ∈ s, 64 ≤ p) (hrefs : (refsOB (delO (b :: s) ob)).any (s.contains ·) = false)
    (hfro : x.fro = false) (hxpu : x.pu = true) (hor : ORel C.fid γ w.heap x i') (hver : i'.ver = 0)
    (hcell : ∀ cs off, RAt C.fid γ w.heap cs off v → ∃ a c, cs[off]? = some (.slice a n c) ∧ HSl i' 0 n a c)
    (hblk : ∀ bb, i'.blk = some bb → ∃ p I X, p ∈ s ∧ γ.mu p = some I ∧ I.blk = some bb ∧ getO ob p = some X ∧ X.fro = false) :
    St C { γ with mu := fun k => if k = o then some i' else if k ∈ s then none else γ.mu k } w tmps (delS s sl) ((o, x) :: (b, { xb with els := [a ++ .sl o 0 0 n :: c] }) :: delO s ob) := by
  have mo : γ.mu o = none := mu_none S hno
  have hbo : b ≠ o := by rintro rfl; rw [hno] at hb; cases hb
  obtain ⟨γ', hγ⟩ : ∃ γ' : Gh, { γ with mu := fun k => if k = o then some i' else if k ∈ s then none else γ.mu k } = γ' := ⟨_, rfl⟩
  have gmu : ∀ k, γ'.mu k = if k = o then some i' else if k ∈ s then none else γ.mu k := fun k => by rw [← hγ]
  have gim : γ'.im = γ.im := by rw [← hγ]
  have ggn : γ'.gn = γ.gn := by rw [← hγ]
  rw [hγ]
  have mv : ∀ T : List Nat, (∀ p ∈ T, p ∉ s) → Mv γ γ' w.heap w.heap T (fun o => o) := fun T hT =>
    ⟨fun p hp i hi => ⟨i, by
      rw [gmu]
      rw [if_neg (fun e => by subst e; rw [mo] at hi; cases hi), if_neg (hT p hp)]
      exact hi, .inl rfl⟩, fun g bb h => ⟨⟨by rw [gim]; exact h.1, fun e => by rw [ggn]; exact h.2 e⟩, rfl⟩⟩
  have mu3 : ∀ k i, γ'.mu k = some i → (k = o ∧ i = i') ∨ (k ≠ o ∧ k ∉ s ∧ γ.mu k = some i) := by
    intro k i h
    rw [gmu] at h
    split at h
    · rename_i e; injection h with h; exact .inl ⟨e, h.symm⟩
    · rename_i e
      split at h
      · cases h
      · rename_i e'; exact .inr ⟨e, e', h⟩
  have ob3 : ∀ k z, getO ((o, x) :: (b, { xb with els := [a ++ .sl o 0 0 n :: c] }) :: delO s ob) k = some z → (k = o ∧ z = x) ∨ (k = b ∧ z = { xb with els := [a ++ .sl o 0 0 n :: c] }) ∨ (k ≠ o ∧ k ≠ b ∧ k ∉ s ∧ getO ob k = some z) := by
    intro k z h
    simp only [getO] at h
    split at h
    · rename_i e; injection h with h; exact .inl ⟨e.symm, h.symm⟩
    · rename_i e
      split at h
      · rename_i e'; injection h with h; exact .inr (.inl ⟨e'.symm, h.symm⟩)
      · rename_i e'
        rw [getO_delO] at h
        split at h
        · cases h
        · rename_i e2; exact .inr (.inr ⟨fun h => e h.symm, fun h => e' h.symm, e2, h⟩)
  have blk' : ∀ bb, i'.blk = some bb → ∃ p I, p ∈ s ∧ γ.mu p = some I ∧ I.blk = some bb := fun bb h => by
    obtain ⟨p, I, X, h1, h2, h3, _⟩ := hblk bb h; exact ⟨p, I, h1, h2, h3⟩
  constructor
  · intro t
    rcases getS_delS s t sl with h | ⟨h, h'⟩
    · rw [h]; exact RV_un
    · rw [h]; exact RAt_mono (mv _ h') (S.slot t)
  · intro k z hz
    rcases ob3 k z hz with ⟨rfl, rfl⟩ | ⟨rfl, rfl⟩ | ⟨h1, h2, h3, h4⟩
    · exact ⟨i', by rw [gmu, if_pos rfl], ORel_mono (mv _ fun p hp => by simp [refsO, hxpu] at hp) (fun _ _ => rfl) hor⟩
    · obtain ⟨ib, hib, g1, g2, g3, g4⟩ := S.obj k xb hb
      refine ⟨ib, by rw [gmu, if_neg hbo, if_neg hbs]; exact hib, g1, g2, by rw [hel] at g3; simpa using g3, ?_⟩
      cases hbk : ib.blk with
      | none =>
        simp only [hbk] at g4
        rw [hel] at g3; simp at g3; omega
      | some bb =>
        simp only [hbk] at g4 ⊢
        obtain ⟨q1, cs, q2, q3, q4⟩ := g4
        refine ⟨q1, cs, q2, q3, .inr ⟨hpu, ?_⟩⟩
        rcases q4 with ⟨q4, _⟩ | ⟨_, q5⟩
        · rw [hpu] at q4; cases q4
        · rw [hel] at q5
          simp only [REls, and_true] at q5 ⊢
          obtain ⟨w1, w2⟩ := q5
          rw [RCells_app] at w2 ⊢
          simp only [RCells, hwd] at w2 ⊢
          obtain ⟨r1, ⟨_, r2⟩, r3⟩ := w2
          refine ⟨by rw [wds_app] at w1 ⊢; simp only [wds, hwd] at w1; simpa only [wds, wd] using w1, RCells_mono (mv _ fun p hp => hac p (List.mem_append_left _ hp)) r1, ⟨rfl, ?_⟩, RCells_mono (mv _ fun p hp => hac p (List.mem_append_right _ hp)) r3⟩
          obtain ⟨aa, cc, e1, e2⟩ := hcell cs _ r2
          simp only [RAt]
          exact ⟨i', by rw [gmu, if_pos rfl], Nat.zero_le _, aa, cc, e1, fun _ => e2⟩
    · obtain ⟨i, g1, g2⟩ := S.obj k z h4
      refine ⟨i, by rw [gmu, if_neg h1, if_neg h3]; exact g1, ORel_mono (mv _ fun p hp hps => ?_) (fun _ _ => rfl) g2⟩
      have hz' : getO (delO (b :: s) ob) k = some z := by rw [getO_delO, if_neg (by simp only [List.mem_cons, not_or]; exact ⟨h2, h3⟩)]; exact h4
      have := List.any_eq_false.1 hrefs p (refsOB_mem hz' hp)
      simp at this
      exact this hps
  · intro k i hi
    rcases mu3 k i hi with ⟨rfl, rfl⟩ | ⟨h1, h2, h3⟩
    · exact ⟨x, by simp [getO]⟩
    · obtain ⟨z, hz⟩ := S.dom k i h3
      by_cases e : k = b
      · subst e; exact ⟨_, by simp only [getO, if_true]; rw [if_neg (fun e => hbo e.symm)]⟩
      · exact ⟨z, by simp only [getO]; rw [if_neg (fun e => h1 e.symm), if_neg (fun e' => e e'.symm), getO_delO, if_neg h2]; exact hz⟩
  · intro k k' i i2 bb h1 h2 h3 h4
    rcases mu3 k i h1 with ⟨e1, rfl⟩ | ⟨_, e2, e3⟩ <;> rcases mu3 k' i2 h2 with ⟨f1, rfl⟩ | ⟨_, f2, f3⟩
    · rw [e1, f1]
    · obtain ⟨p, I, g1, g2, g3⟩ := blk' bb h3
      exact absurd (S.inj p k' I i2 bb g2 f3 g3 h4 ▸ g1) f2
    · obtain ⟨p, I, g1, g2, g3⟩ := blk' bb h4
      exact absurd (S.inj p k I i bb g2 e3 g3 h3 ▸ g1) e2
    · exact S.inj k k' i i2 bb e3 f3 h3 h4
  · intro k z i bb hz hf hi hb'
    rw [gim]
    rcases mu3 k i hi with ⟨rfl, rfl⟩ | ⟨e1, e2, e3⟩
    · obtain ⟨p, I, X, g1, g2, g3, g4, g5⟩ := hblk bb hb'
      exact S.unf p X I bb g4 g5 g2 g3
    · rcases ob3 k z hz with ⟨h, _⟩ | ⟨rfl, rfl⟩ | ⟨_, _, _, h4⟩
      · exact absurd h e1
      · exact S.unf k xb i bb hb hf e3 hb'
      · exact S.unf k z i bb h4 hf e3 hb'
  · intro k i bb hi hb'
    rcases mu3 k i hi with ⟨rfl, rfl⟩ | ⟨_, _, e3⟩
    · obtain ⟨p, I, g1, g2, g3⟩ := blk' bb hb'
      exact S.own p I bb g2 g3
    · exact S.own k i bb e3 hb'
  · rw [gim]; exact S.lt
  · intro g xs hg
    obtain ⟨h1, cs, h2, h3⟩ := S.glob g xs hg
    exact ⟨((mv [] (fun p hp => by cases hp)).q true g h1).1, cs, h2, PCells_mono (fun b hb => ⟨((mv [] (fun p hp => by cases hp)).q true b hb).1, rfl⟩) _ _ _ h3⟩
  · exact S.chg
  · rw [ggn]; exact S.gn
  · exact S.gnew
  · intro k i hk hi
    obtain ⟨i2, h1, h2⟩ := S.kept k i hk hi
    have hk64 := hkp k hk
    refine ⟨i2, ?_, h2⟩
    rw [gmu, if_neg (fun e => by omega), if_neg (fun h => by have := hs64 k h; omega)]
    exact h1
  · intro bb hb'
    rw [gim]; exact S.imk bb hb'
  · intro bb hb'
    rw [gim] at hb'; exact S.imn bb hb'
  · intro k i bb hi hb'
    rcases mu3 k i hi with ⟨rfl, rfl⟩ | ⟨_, _, e3⟩
    · obtain ⟨p, I, g1, g2, g3⟩ := blk' bb hb'
      rcases S.place p I bb g2 g3 with ⟨h, _⟩ | h
      · have := hs64 p g1; omega
      · exact .inr h
    · exact S.place k i bb e3 hb'
  · exact S.fresh
theorem St.sameOb {γ : Gh} {w : World} {tmps : Array Value} {sl : SL} {ob ob' : OB} (S : St C γ w tmps sl ob) (h : ∀ k, getO ob' k = getO ob k) : St C γ w tmps sl ob' :=
  { S with
    obj := fun o x hx => S.obj o x (by rw [← h]; exact hx)
    dom := fun o i hi => by obtain ⟨x, hx⟩ := S.dom o i hi; exact ⟨x, by rw [h]; exact hx⟩
    unf := fun o x i b hx => S.unf o x i b (by rw [← h]; exact hx) }
theorem del_same (o b : Nat) (x y : Obj') (s : List Nat) (ob : OB) (k : Nat) : getO ((o, x) :: (b, y) :: delO (b :: s) ob) k = getO ((o, x) :: (b, y) :: delO s ob) k := by
  simp only [getO]
  split
  · rfl
  · split
    · rfl
    · rename_i h1 h2
      rw [getO_delO, getO_delO]
      by_cases e : k ∈ s
      · rw [if_pos e, if_pos (List.mem_cons_of_mem _ e)]
      · rw [if_neg e, if_neg (by simp only [List.mem_cons, not_or]; exact ⟨fun e' => h2 e'.symm, e⟩)]
theorem renE_ok {γ : Gh} {w : World} {tmps : Array Value} {sl : SL} {ob : OB} (S : St C γ w tmps sl ob) (hkp : ∀ k, C.kp k → k < 64) {b o wdt : Nat} {xb : Obj'} {a c : List PV} {v : PV} (hb : getO ob b = some xb) (hpu : xb.pu = false) (hel : xb.els = [a ++ v :: c]) (hwd : wd v = 1) {y : SL × OB}
    (H : renE sl ob b o xb a c (asR ob wdt v) = some y) : ∃ γ', St C γ' w tmps y.1 y.2 := by
  unfold renE at H
  split at H
  case h_2 => cases H
  rename_i q hq
  split at H
  case isFalse => cases H
  rename_i hc
  obtain ⟨hno, h64, hbs, hac, hrefs⟩ := hc
  injection H with H
  subst H
  obtain ⟨x, n, s⟩ := q
  simp only at hbs hac hrefs ⊢
  have hbs' : b ∉ s := by simpa using hbs
  have hac' : ∀ p ∈ refsL a ++ refsL c, p ∉ s := fun p hp => by have := List.any_eq_false.1 hac p hp; simpa using this
  unfold asR at hq
  split at hq
  · simp only [Option.some.injEq, Prod.mk.injEq] at hq
    obtain ⟨rfl, rfl, rfl⟩ := hq
    exact ⟨_, St.sameOb (ob := _ :: _ :: delO [] ob) (S.rename (x := row [] wdt true) (i' := ⟨0, none, wdt, 0⟩) hkp hb hpu hel hwd hno h64 hbs' hac' (fun p hp => by cases hp) hrefs rfl rfl ⟨rfl, fun c h => by simp [row] at h, by simp [row], rfl⟩ rfl
      (fun cs off h => by
        simp only [RAt] at h
        obtain ⟨aa, e, _⟩ := h
        exact ⟨aa, 0, e, rfl, Nat.le_refl _, fun hh => by omega⟩) (fun bb h => by cases h)) (del_same _ _ _ _ _ _)⟩
  · rename_i o' ver lo n'
    cases hX : getO ob o' with
    | none => simp [hX] at hq
    | some X =>
      simp only [hX] at hq
      split at hq
      · rename_i hcc
        obtain ⟨c0, c1, c2, c3, c4, rfl, rfl⟩ := hcc
        simp only [Option.some.injEq, Prod.mk.injEq] at hq
        obtain ⟨rfl, rfl, rfl⟩ := hq
        obtain ⟨I, hI, q1, q2, q3, q4⟩ := S.obj o' X hX
        exact ⟨_, St.sameOb (ob := _ :: _ :: delO [o'] ob) (S.rename (x := { X with ver := 0, cap := none }) (i' := { I with ver := 0 }) hkp hb hpu hel hwd hno h64 hbs' hac' (fun p hp => by simp at hp; omega) hrefs c2 c1 ⟨rfl, (fun c h => by cases h), q3, q4⟩ rfl
          (fun cs off h => by
            simp only [RAt] at h
            obtain ⟨I', hI', hvv, aa, cc, e, hh⟩ := h
            rw [hI] at hI'; injection hI' with hI'; subst hI'
            obtain ⟨g1, g2, g3⟩ := hh (by omega)
            exact ⟨aa, cc, e, g1, g2, g3⟩) (fun bb h => ⟨o', I, X, by simp, hI, h, hX, c2⟩)) (del_same _ _ _ _ _ _)⟩
      · cases hq
  · cases hq
theorem renC_ok {γ : Gh} {w : World} {tmps : Array Value} {sl : SL} {ob : OB} (S : St C γ w tmps sl ob) (hkp : ∀ k, C.kp k → k < 64) {x : CC} {y : SL × OB} (H : renC x sl ob = some y) : ∃ γ', St C γ' w tmps y.1 y.2 := by
  obtain ⟨b, off, o, wdt⟩ := x
  simp only [renC] at H
  unfold renX at H
  split at H
  case h_2 => cases H
  rename_i xb hb
  split at H
  case isFalse => cases H
  rename_i hpu
  split at H
  case h_2 => cases H
  rename_i el hel
  unfold renA at H
  split at H
  case h_2 => cases H
  rename_i a v c ha hc
  have he : el = a ++ v :: c := (takeW_dropW ha hc).1
  split at H
  · injection H with H; subst H; exact ⟨γ, S⟩
  · split at H
    case isFalse => cases H
    rename_i hcc
    obtain ⟨hwd, h64, hbo, hrefs⟩ := hcc
    have S1 := S.del hkp (ids := [o]) (fun p hp => by simp at hp; omega) hrefs
    refine renE_ok S1 hkp (by rw [getO_delO, if_neg (by simpa using hbo)]; exact hb) hpu (by rw [hel, he]) hwd H
theorem renCs_ok {w : World} {tmps : Array Value} (hkp : ∀ k, C.kp k → k < 64) : ∀ (cs : List CC) {γ : Gh} {sl : SL} {ob : OB} {y : SL × OB}, St C γ w tmps sl ob → renCs cs sl ob = some y → ∃ γ', St C γ' w tmps y.1 y.2
  | [], γ, sl, ob, y, S, H => by
    simp only [renCs, Option.some.injEq] at H
    subst H
    exact ⟨γ, S⟩
  | c :: r, γ, sl, ob, y, S, H => by
    simp only [renCs] at H
    obtain ⟨z, hz, H⟩ := bnd_some H
    obtain ⟨γ1, S1⟩ := renC_ok S hkp hz
    exact renCs_ok hkp r S1 H
theorem headH_ok (hkp : ∀ k, C.kp k → k < 64) {γ : Gh} {w : World} {tmps : Array Value} {sl : SL} {ob : OB} (S : St C γ w tmps sl ob) {h : Hd} {x : SL × OB} (H : headH h sl ob = some x) : ∃ γ', St C γ' w tmps x.1 x.2 := by
  unfold headH at H
  obtain ⟨y, hy, H⟩ := bnd_some H
  have S0 : St C γ w tmps (keepS sl h.ts) ob := by
    refine { S with slot := fun t => ?_ }
    rcases keepS_get sl h.ts t with e | e
    · rw [e]; exact S.slot t
    · rw [e]; exact RV_un
  obtain ⟨γ1, S1⟩ := renCs_ok hkp h.cs S0 hy
  exact head_ok' hkp S1 H
/-- Slots are what they were, or unknown. -/
theorem renC_slot {x : CC} {sl : SL} {ob : OB} {y : SL × OB} (H : renC x sl ob = some y) (t : Nat) : getS y.1 t = getS sl t ∨ getS y.1 t = .un := by
  obtain ⟨b, off, o, wdt⟩ := x
  simp only [renC] at H
  unfold renX at H
  split at H
  case h_2 => cases H
  split at H
  case isFalse => cases H
  split at H
  case h_2 => cases H
  unfold renA at H
  split at H
  case h_2 => cases H
  split at H
  · injection H with H; subst H; exact .inl rfl
  · split at H
    case isFalse => cases H
    unfold renE at H
    split at H
    case h_2 => cases H
    rename_i q _
    split at H
    case isFalse => cases H
    injection H with H
    subst H
    rcases getS_delS q.2.2 t (delS [o] sl) with h | ⟨h, _⟩
    · exact .inr h
    · rcases getS_delS [o] t sl with h' | ⟨h', _⟩
      · exact .inr (h.trans h')
      · exact .inl (h.trans h')
theorem renCs_slot : ∀ (cs : List CC) {sl : SL} {ob : OB} {y : SL × OB}, renCs cs sl ob = some y → ∀ t, getS y.1 t = getS sl t ∨ getS y.1 t = .un
  | [], sl, ob, y, H, t => by
    simp only [renCs, Option.some.injEq] at H
    subst H
    exact .inl rfl
  | c :: r, sl, ob, y, H, t => by
    simp only [renCs] at H
    obtain ⟨z, hz, H⟩ := bnd_some H
    rcases renCs_slot r H t with h | h
    · rcases renC_slot hz t with h' | h'
      · exact .inl (h.trans h')
      · exact .inr (h.trans h')
    · exact .inr h
end
end Go.Proofs.YtcimkkcajkmfoaaDoor
