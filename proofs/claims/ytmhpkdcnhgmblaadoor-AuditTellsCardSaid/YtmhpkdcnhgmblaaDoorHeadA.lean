import Derived.Test.YtmhpkdcnhgmblaaDoorCallC
set_option linter.all false
namespace Go.Proofs.YtmhpkdcnhgmblaaDoor
section
open Go
theorem cntN_app (o : Nat) : ∀ (a b : List Nat), cntN o (a ++ b) = cntN o a + cntN o b
  | [], b => by simp [cntN]
  | x :: r, b => by
    simp only [List.cons_append, cntN, cntN_app o r b]
    split <;> omega
theorem cntN_zero {o : Nat} : ∀ {l : List Nat}, cntN o l = 0 ↔ o ∉ l
  | [] => by simp [cntN]
  | x :: r => by
    simp only [cntN, List.mem_cons, not_or]
    by_cases e : x = o
    · simp [e]
    · rw [if_neg e, cntN_zero]; exact ⟨fun h => ⟨fun h' => e h'.symm, h⟩, fun h => h.2⟩
theorem cntN_pos {o : Nat} {l : List Nat} (h : o ∈ l) : 0 < cntN o l := Nat.pos_of_ne_zero (fun e => cntN_zero.1 e h)
theorem refsS_mem : ∀ {sl : SL} {t : Nat} {o : Nat}, o ∈ refs (getS sl t) → o ∈ refsS sl
  | [], t, o, h => by simp [getS, refs] at h
  | (k, v) :: r, t, o, h => by
    simp only [getS] at h
    simp only [refsS, List.mem_append]
    split at h
    · exact .inl h
    · exact .inr (refsS_mem h)
theorem refsS_once : ∀ {sl : SL} {t t' o : Nat}, o ∈ refs (getS sl t) → o ∈ refs (getS sl t') → cntN o (refsS sl) ≤ 1 → t = t'
  | [], t, t', o, h, _, _ => by simp [getS, refs] at h
  | (k, v) :: r, t, t', o, h, h', hc => by
    simp only [getS] at h h'
    simp only [refsS, cntN_app] at hc
    by_cases e : k = t
    · by_cases e' : k = t'
      · omega
      · rw [if_pos e] at h; rw [if_neg e'] at h'
        have := cntN_pos h; have := cntN_pos (refsS_mem h'); omega
    · by_cases e' : k = t'
      · rw [if_neg e] at h; rw [if_pos e'] at h'
        have := cntN_pos h'; have := cntN_pos (refsS_mem h); omega
      · rw [if_neg e] at h; rw [if_neg e'] at h'
        exact refsS_once h h' (by omega)
theorem keepO_ok (ob : OB) : ∀ {os : List Nat} {kb : OB}, keepO ob os = some kb → (∀ o, o ∈ os → getO kb o = getO ob o ∧ True) ∧ ∀ o, o ∉ os → getO kb o = none
  | [], kb, H => by simp only [keepO, Option.some.injEq] at H; subst H; exact ⟨(fun o h => by cases h), fun o _ => rfl⟩
  | o :: r, kb, H => by
    simp only [keepO] at H
    split at H
    · rename_i x y hx hy
      injection H with H; subst H
      obtain ⟨h1, h2⟩ := keepO_ok ob hy
      refine ⟨fun p hp => ?_, fun p hp => ?_⟩
      · simp only [getO]
        by_cases e : o = p
        · subst e; rw [if_pos rfl]; exact ⟨hx.symm, trivial⟩
        · rw [if_neg e]; exact h1 p ((List.mem_cons.1 hp).resolve_left (fun h => e h.symm))
      · simp only [List.mem_cons, not_or] at hp
        simp only [getO]; rw [if_neg (fun e => hp.1 e.symm)]; exact h2 p hp.2
    · rename_i y hx hy
      injection H with H; subst H
      obtain ⟨h1, h2⟩ := keepO_ok ob hy
      refine ⟨fun p hp => ?_, fun p hp => ?_⟩
      · rcases List.mem_cons.1 hp with rfl | hp
        · by_cases hp : p ∈ r
          · exact h1 p hp
          · exact ⟨by rw [h2 p hp, hx], trivial⟩
        · exact h1 p hp
      · simp only [List.mem_cons, not_or] at hp
        exact h2 p hp.2
    · cases H
theorem keepS_get (sl : SL) : ∀ (ts : List Nat) (t : Nat), getS (keepS sl ts) t = getS sl t ∨ getS (keepS sl ts) t = .un
  | [], t => .inr rfl
  | k :: r, t => by
    simp only [keepS, getS]
    by_cases e : k = t
    · subst e; simp
    · rw [if_neg e]; exact keepS_get sl r t
section
variable {C : Ctx} {γ : Gh} {w : World} {tmps : Array Value} {sl0 : SL} {ob : OB}
structure Hp (C : Ctx) (γ : Gh) (w : World) (tmps : Array Value) (ob : OB) (sl : SL) (rows : OB) (src : List Nat) (inf : Nat → Option HI) (so : Nat → Option Nat) : Prop where
  slot : ∀ t, RV C.fid γ w.heap (tmps.getD t undef) (getS sl t) ∨ ∃ o n i a c, getS sl t = .sl o 0 0 n ∧ inf o = some i ∧ tmps.getD t undef = .slice a n c ∧ HSl i 0 n a c
  row : ∀ o x, getO rows o = some x → ∃ i, inf o = some i ∧ i.ver = 0 ∧ x.fro = false ∧ x.pu = true ∧ 64 ≤ o ∧ ORel C.fid γ w.heap x i
  dom : ∀ o i, inf o = some i → ∃ x, getO rows o = some x
  srcs : ∀ o i b, inf o = some i → i.blk = some b → ∃ o' I X, so o = some o' ∧ o' ∈ src ∧ 64 ≤ o' ∧ γ.mu o' = some I ∧ I.blk = some b ∧ getO ob o' = some X ∧ X.fro = false
  so1 : ∀ o o' p, so o = some p → so o' = some p → o = o'
  sod : ∀ o p, so o = some p → p ∈ src ∧ ∃ x, getO rows o = some x
  own : ∀ o x, getO rows o = some x → ∃ t n i a c, getS sl t = .sl o 0 0 n ∧ inf o = some i ∧ tmps.getD t undef = .slice a n c ∧ HSl i 0 n a c
theorem setS_get (sl : SL) (t : Nat) (v : PV) : ∀ t', getS (setS sl t v) t' = getS sl t' ∨ (t' = t ∧ getS (setS sl t v) t' = v) := by
  induction sl with
  | nil => intro t'; exact .inl rfl
  | cons x r ih =>
    obtain ⟨k, u⟩ := x
    intro t'
    simp only [setS]
    split
    · rename_i e; subst e
      simp only [getS]
      split
      · rename_i e; exact .inr ⟨e.symm, rfl⟩
      · exact .inl rfl
    · simp only [getS]
      split
      · exact .inl rfl
      · exact ih t'
theorem setS_same (sl : SL) (t : Nat) (v : PV) (h : getS sl t ≠ .un) : getS (setS sl t v) t = v := by
  induction sl with
  | nil => exact absurd rfl h
  | cons x r ih =>
    obtain ⟨k, u⟩ := x
    simp only [setS]
    by_cases e : k = t
    · rw [if_pos e]; simp only [getS]; rw [if_pos e]
    · rw [if_neg e]; simp only [getS] at h ⊢; rw [if_neg e] at h ⊢; exact ih h
theorem toL_R {x : Value} {v u : PV} (h : RV C.fid γ w.heap x v) (H : toL v = some u) : RV C.fid γ w.heap x u := by
  unfold toL at H
  split at H
  · injection H with H; subst H; exact RV_flatL h
  · injection H with H; subst H; exact RV_flatL (RV_ln.1 h).1
  · injection H with H; subst H
    obtain ⟨a, e, _⟩ := RV_e.1 h
    exact RV_l.2 ⟨a, 0, e, Nat.zero_le _, .inl rfl⟩
  · cases H
theorem headC_ok (S : St C γ w tmps sl0 ob) : ∀ (nc : List NC) (sl : SL) (kb rows : OB) (src : List Nat) (inf : Nat → Option HI) (so : Nat → Option Nat) (sl' : SL) (kb' rows' : OB) (src' : List Nat), headC ob nc sl kb rows src = some (sl', kb', rows', src') →
    Hp C γ w tmps ob sl rows src inf so → kb' = kb ∧ ∃ inf' so', Hp C γ w tmps ob sl' rows' src' inf' so'
  | [], sl, kb, rows, src, inf, so, sl', kb', rows', src', H, h => by
    simp only [headC, Option.some.injEq, Prod.mk.injEq] at H
    obtain ⟨rfl, rfl, rfl, rfl⟩ := H
    exact ⟨rfl, inf, so, h⟩
  | .toL t :: r, sl, kb, rows, src, inf, so, sl', kb', rows', src', H, h => by
    simp only [headC] at H
    cases hv : toL (getS sl t) with
    | none => simp [hv] at H
    | some v =>
      simp only [hv] at H
      refine headC_ok S r _ _ _ _ inf so _ _ _ _ H ⟨fun t' => ?_, h.row, h.dom, h.srcs, h.so1, h.sod, fun o x hx => ?_⟩
      rotate_left
      · obtain ⟨t0, n, i, a, c, g1, g2⟩ := h.own o x hx
        rcases setS_get sl t v t0 with e | ⟨rfl, e⟩
        · exact ⟨t0, n, i, a, c, by rw [e]; exact g1, g2⟩
        · rw [g1] at hv; simp [toL] at hv
      rcases setS_get sl t v t' with e | ⟨rfl, e⟩
      · rw [e]; exact h.slot t'
      · rw [e]
        rcases h.slot t' with h' | ⟨o, n, i, a, c, e', _⟩
        · exact .inl (toL_R h' hv)
        · rw [e'] at hv; simp [toL] at hv
  | .crow _ _ _ _ :: r, sl, kb, rows, src, inf, so, sl', kb', rows', src', H, h => by simp [headC] at H
  | .cToL _ _ :: r, sl, kb, rows, src, inf, so, sl', kb', rows', src', H, h => by simp [headC] at H
  | .row t o wd :: r, sl, kb, rows, src, inf, so, sl', kb', rows', src', H, h => by
    simp only [headC] at H
    cases hv : asR ob wd (getS sl t) with
    | none => simp [hv] at H
    | some q =>
      obtain ⟨x, n, sr⟩ := q
      simp only [hv] at H
      split at H
      · rename_i hc
        obtain ⟨ho, hno, hsr⟩ := hc
        have hinf : inf o = none := by
          cases hi : inf o with
          | none => rfl
          | some i => obtain ⟨y, hy⟩ := h.dom o i hi; rw [hno] at hy; cases hy
        have hso : so o = none := by
          cases hi : so o with
          | none => rfl
          | some p => obtain ⟨_, y, hy⟩ := h.sod o p hi; rw [hno] at hy; cases hy
        have key : ∀ (i : HI) (sp : Option Nat), i.ver = 0 → x.fro = false → x.pu = true → ORel C.fid γ w.heap x i → (∃ a c, tmps.getD t undef = .slice a n c ∧ HSl i 0 n a c) →
            (∀ b, i.blk = some b → ∃ o' I X, sp = some o' ∧ o' ∈ sr ++ src ∧ 64 ≤ o' ∧ γ.mu o' = some I ∧ I.blk = some b ∧ getO ob o' = some X ∧ X.fro = false) → (∀ p, sp = some p → p ∈ sr) →
            Hp C γ w tmps ob (setS sl t (.sl o 0 0 n)) ((o, x) :: rows) (sr ++ src) (fun k => if k = o then some i else inf k) (fun k => if k = o then sp else so k) := by
          intro i sp hver hfro hpu hor hval hsrc hsp
          refine ⟨fun t' => ?_, fun k y hy => ?_, fun k j hj => ?_, fun k j b hj hb => ?_, fun k k' p h1 h2 => ?_, fun k p hk => ?_, fun k y hy => ?_⟩
          rotate_right
          · simp only [getO] at hy
            split at hy
            · rename_i e; subst e
              obtain ⟨a, c, e1, e2⟩ := hval
              exact ⟨t, n, i, a, c, setS_same _ _ _ (fun e => by rw [e] at hv; simp [asR] at hv), by rw [if_pos rfl], e1, e2⟩
            · rename_i e
              obtain ⟨t0, n0, i0, a, c, g1, g2, g3⟩ := h.own k y hy
              refine ⟨t0, n0, i0, a, c, ?_, by rw [if_neg (fun e' => e e'.symm)]; exact g2, g3⟩
              rcases setS_get sl t (.sl o 0 0 n) t0 with e' | ⟨rfl, _⟩
              · rw [e']; exact g1
              · rw [g1] at hv
                have hk : k ∈ sr := by
                  simp only [asR] at hv
                  split at hv
                  · split at hv
                    · simp only [Option.some.injEq, Prod.mk.injEq] at hv; rw [← hv.2.2]; simp
                    · cases hv
                  · cases hv
                have := List.any_eq_false.1 hsr k hk
                rw [hy] at this; simp at this
          · rcases setS_get sl t (.sl o 0 0 n) t' with e | ⟨rfl, e⟩
            · rw [e]
              rcases h.slot t' with h' | ⟨o2, n2, i2, a, c, e2, e3, e4, e5⟩
              · exact .inl h'
              · refine .inr ⟨o2, n2, i2, a, c, e2, ?_, e4, e5⟩
                rw [if_neg (fun e => by subst e; rw [hinf] at e3; cases e3)]; exact e3
            · obtain ⟨a, c, e1, e2⟩ := hval
              exact .inr ⟨o, n, i, a, c, e, by rw [if_pos rfl], e1, e2⟩
          · simp only [getO] at hy
            split at hy
            · rename_i e; subst e; injection hy with hy; subst hy
              exact ⟨i, by rw [if_pos rfl], hver, hfro, hpu, ho, hor⟩
            · rename_i e
              obtain ⟨j, h1, h2⟩ := h.row k y hy
              exact ⟨j, by rw [if_neg (fun e' => e e'.symm)]; exact h1, h2⟩
          · simp only [getO]
            by_cases e : o = k
            · rw [if_pos e]; exact ⟨x, rfl⟩
            · rw [if_neg (fun e' => e e'.symm)] at hj
              rw [if_neg e]; exact h.dom k j hj
          · by_cases e : k = o
            · rw [if_pos e] at hj; injection hj with hj; subst hj
              rw [if_pos e]; exact hsrc b hb
            · rw [if_neg e] at hj ⊢
              obtain ⟨o', I, X, h1, h2, h3⟩ := h.srcs k j b hj hb
              exact ⟨o', I, X, h1, List.mem_append_right _ h2, h3⟩
          · have hno' : ∀ p k, sp = some p → so k = some p → False := by
              intro p k e1 e2
              have hp := hsp p e1
              obtain ⟨h3, _⟩ := h.sod k p e2
              have := List.any_eq_false.1 hsr p hp
              simp at this; exact this.1 h3
            by_cases e : k = o
            · by_cases e' : k' = o
              · rw [e, e']
              · rw [if_pos e] at h1; rw [if_neg e'] at h2
                exact (hno' p k' h1 h2).elim
            · by_cases e' : k' = o
              · rw [if_neg e] at h1; rw [if_pos e'] at h2
                exact (hno' p k h2 h1).elim
              · rw [if_neg e] at h1; rw [if_neg e'] at h2
                exact h.so1 k k' p h1 h2
          · by_cases e : k = o
            · rw [if_pos e] at hk
              exact ⟨List.mem_append_left _ (hsp p hk), x, by rw [e]; simp [getO]⟩
            · rw [if_neg e] at hk
              obtain ⟨h1, y, h2⟩ := h.sod k p hk
              exact ⟨List.mem_append_right _ h1, y, by simp only [getO]; rw [if_neg (fun e' => e e'.symm)]; exact h2⟩
        have fin : ∀ (i : HI) (sp : Option Nat), Hp C γ w tmps ob (setS sl t (.sl o 0 0 n)) ((o, x) :: rows) (sr ++ src) (fun k => if k = o then some i else inf k) (fun k => if k = o then sp else so k) → kb' = kb ∧ ∃ inf' so', Hp C γ w tmps ob sl' rows' src' inf' so' := fun i sp hp => headC_ok S r _ _ _ _ _ _ _ _ _ _ H hp
        unfold asR at hv
        split at hv
        · rename_i nl hg
          simp only [Option.some.injEq, Prod.mk.injEq] at hv
          obtain ⟨rfl, rfl, rfl⟩ := hv
          refine fin ⟨0, none, wd, 0⟩ none (key _ _ rfl rfl rfl ⟨rfl, fun c h => by simp [row] at h, by simp [row], rfl⟩ ?_ (fun b hb => by cases hb) (fun p hp => by cases hp))
          rcases h.slot t with h' | ⟨o2, n2, i2, a, c, e2, _⟩
          · rw [hg] at h'
            obtain ⟨a, e, _⟩ := RV_e.1 h'
            exact ⟨a, 0, e, rfl, Nat.le_refl _, fun hh => by omega⟩
          · rw [hg] at e2; cases e2
        · rename_i o' ver lo n' hg
          cases hX : getO ob o' with
          | none => simp [hX] at hv
          | some X =>
            simp only [hX] at hv
            split at hv
            · rename_i hcc
              obtain ⟨c0, c1, c2, c3, c4, rfl, rfl⟩ := hcc
              simp only [Option.some.injEq, Prod.mk.injEq] at hv
              obtain ⟨rfl, rfl, rfl⟩ := hv
              have hno2 : getO rows o' = none := by
                have := List.any_eq_false.1 hsr o' (by simp)
                simp at this
                cases hh : getO rows o' with
                | none => rfl
                | some y => rw [hh] at this; simp at this
              rcases h.slot t with h' | ⟨o2, n2, i2, a, c, e2, e3, _⟩
              · rw [hg] at h'
                obtain ⟨I, hI, hvv, a, c, e, hh⟩ := RV_sl.1 h'
                obtain ⟨I', hI', q1, q2, q3, q4⟩ := S.obj o' X hX
                rw [hI] at hI'; injection hI' with hI'; subst hI'
                obtain ⟨g1, g2, g3⟩ := hh (by omega)
                refine fin { I with ver := 0 } (some o') (key _ _ rfl c2 c1 ⟨rfl, (fun c h => by cases h), q3, q4⟩ ⟨a, c, e, g1, g2, g3⟩ (fun b hb => ⟨o', I, X, rfl, by simp, c0, hI, hb, hX, c2⟩) (fun p hp => by injection hp with hp; simp [hp]))
              · rw [hg] at e2; injection e2 with e2; subst e2
                obtain ⟨y, hy⟩ := h.dom o' i2 e3
                rw [hno2] at hy; cases hy
            · cases hv
        · cases hv
      · cases H
theorem refsOB_mem : ∀ {kb : OB} {o p : Nat} {x : Obj'}, getO kb o = some x → p ∈ refsO x → p ∈ refsOB kb
  | [], o, p, x, h, _ => by simp [getO] at h
  | (k, v) :: r, o, p, x, h, hp => by
    simp only [getO] at h
    simp only [refsOB, List.mem_append]
    split at h
    · injection h with h; subst h; exact .inl hp
    · exact .inr (refsOB_mem h hp)
theorem keysO_mem : ∀ {rows : OB} {o : Nat}, o ∈ keysO rows ↔ ∃ x, getO rows o = some x
  | [], o => by simp [keysO, getO]
  | (k, v) :: r, o => by
    simp only [keysO, List.mem_cons, getO, keysO_mem (rows := r)]
    by_cases e : k = o
    · subst e; simp
    · rw [if_neg e]; exact ⟨fun h => h.resolve_left (fun h => e h.symm), fun h => .inr h⟩
theorem head_ok' (hkp : ∀ k, C.kp k → k < 64) (S : St C γ w tmps sl0 ob) {h : Hd} {x : SL × OB} (H : head h.nc h.ts h.os sl0 ob = some x) : ∃ γ', St C γ' w tmps x.1 x.2 := by
  unfold head at H
  cases hk : keepO ob h.os with
  | none => simp [hk] at H
  | some kb =>
    simp only [hk] at H
    split at H
    · cases H
    rename_i hkeep
    cases hc : headC ob h.nc (keepS sl0 h.ts) kb [] [] with
    | none => simp [hc, headF] at H
    | some q =>
      obtain ⟨sl, kb', rows, src⟩ := q
      simp only [hc, headF] at H
      split at H
      · rename_i hok
        injection H with H; subst H
        obtain ⟨rfl, inf, so, hp⟩ := headC_ok S h.nc _ _ _ _ (fun _ => none) (fun _ => none) _ _ _ _ hc
          { slot := fun t => by
              rcases keepS_get sl0 h.ts t with e | e
              · rw [e]; exact .inl (S.slot t)
              · rw [e]; exact .inl RV_un
            row := fun o x hx => by simp [getO] at hx
            dom := fun o i h => by cases h
            srcs := fun o i b h => by cases h
            so1 := fun o o' p h => by cases h
            sod := fun o p h => by cases h
            own := fun o x hx => by simp [getO] at hx }
        simp only [headOK, Bool.and_eq_true] at hok
        obtain ⟨⟨ok1, ok2⟩, ok3⟩ := hok
        have hsrc : ∀ p, p ∈ src → p ∉ h.os := fun p hp => by
          have := List.all_eq_true.1 ok1 p hp; simpa using this
        have hkey : ∀ o x, getO rows o = some x → o ∉ h.os ∧ cntN o (refsS sl ++ refsOB kb') = 1 := fun o x hx => by
          have := List.all_eq_true.1 ok2 o (keysO_mem.2 ⟨x, hx⟩); simpa using this
        have hall : ∀ o, o ∈ refsS sl ++ refsOB kb' → o ∈ h.os ∨ ∃ x, getO rows o = some x := fun o ho => by
          have := List.all_eq_true.1 ok3 o ho
          simp only [Bool.or_eq_true, List.contains_eq_mem, decide_eq_true_eq] at this
          exact this.imp id keysO_mem.1
        obtain ⟨k1, k2⟩ := keepO_ok ob hk
        have hinfos : ∀ o i, inf o = some i → o ∉ h.os := fun o i hi => by obtain ⟨x, hx⟩ := hp.dom o i hi; exact (hkey o x hx).1
        let γ' : Gh := { γ with mu := fun o => match inf o with
          | some i => some i
          | none => if o ∈ h.os then γ.mu o else none }
        have hmu1 : ∀ o i, inf o = some i → γ'.mu o = some i := fun o i hi => by simp only [γ', hi]
        have hmu2 : ∀ o, o ∈ h.os → γ'.mu o = γ.mu o := fun o ho => by
          have : inf o = none := by
            cases hi : inf o with
            | none => rfl
            | some i => exact absurd ho (hinfos o i hi)
          simp only [γ', this, ho, if_true]
        have hmu3 : ∀ o i, γ'.mu o = some i → inf o = some i ∨ (inf o = none ∧ o ∈ h.os ∧ γ.mu o = some i) := fun o i hi => by
          simp only [γ'] at hi
          split at hi
          · rename_i j hj; injection hi with hi; subst hi; exact .inl hj
          · rename_i hj
            split at hi
            · rename_i ho; exact .inr ⟨hj, ho, hi⟩
            · cases hi
        have M : ∀ S' : List Nat, (∀ o, o ∈ S' → o ∈ h.os) → Mv γ γ' w.heap w.heap S' (fun o => o) := fun S' hS => ⟨fun o ho i hi => ⟨i, by rw [hmu2 o (hS o ho)]; exact hi, .inl rfl⟩, fun g b hb => ⟨hb, rfl⟩⟩
        have rowRV : ∀ {o n i a c t}, getS sl t = .sl o 0 0 n → inf o = some i → tmps.getD t undef = .slice a n c → HSl i 0 n a c → RV C.fid γ' w.heap (tmps.getD t undef) (getS sl t) := fun {o n i a c t} e1 e2 e3 e4 => by
          rw [e1]
          exact RV_sl.2 ⟨i, hmu1 _ _ e2, Nat.zero_le _, a, c, e3, fun _ => e4⟩
        have once : ∀ o x, getO rows o = some x → cntN o (refsS sl) = 1 ∧ o ∉ refsOB kb' := fun o x hx => by
          have h1 := (hkey o x hx).2
          rw [cntN_app] at h1
          obtain ⟨t0, n, i, a, c, g1, _⟩ := hp.own o x hx
          have h2 : o ∈ refsS sl := refsS_mem (t := t0) (by rw [g1]; simp [refs])
          have h3 := cntN_pos h2
          exact ⟨by omega, cntN_zero.1 (by omega)⟩
        refine ⟨γ', ?_⟩
        constructor
        · intro t
          rcases hp.slot t with hl | ⟨o, n, i, a, c, e1, e2, e3, e4⟩
          · by_cases hex : ∃ o, o ∈ refs (getS sl t) ∧ ∃ x, getO rows o = some x
            · obtain ⟨o, ho, x, hx⟩ := hex
              obtain ⟨t0, n, i, a, c, g1, g2, g3, g4⟩ := hp.own o x hx
              have : t = t0 := refsS_once ho (by rw [g1]; simp [refs]) (Nat.le_of_eq (once o x hx).1)
              subst this
              exact rowRV g1 g2 g3 g4
            · refine RAt_mono (M _ fun o ho => ?_) hl
              rcases hall o (List.mem_append_left _ (refsS_mem ho)) with h' | h'
              · exact h'
              · exact absurd ⟨o, ho, h'⟩ hex
          · exact rowRV e1 e2 e3 e4
        · intro o x hx
          rw [getO_app] at hx
          split at hx
          · rename_i y hy
            injection hx with hx; subst hx
            obtain ⟨i, h1, _, _, hpu, _, hor⟩ := hp.row o y hy
            exact ⟨i, hmu1 o i h1, ORel_mono (M _ fun p hp' => by simp [refsO, hpu] at hp') (fun _ _ => rfl) hor⟩
          · have ho : o ∈ h.os := by
              by_cases ho : o ∈ h.os
              · exact ho
              · rw [k2 o ho] at hx; cases hx
            have hx' := hx
            rw [(k1 o ho).1] at hx
            obtain ⟨i, h1, hor⟩ := S.obj o x hx
            refine ⟨i, by rw [hmu2 o ho]; exact h1, ORel_mono (M _ fun p hp' => ?_) (fun _ _ => rfl) hor⟩
            have hm := refsOB_mem hx' hp'
            rcases hall p (List.mem_append_right _ hm) with h' | ⟨y, h'⟩
            · exact h'
            · exact absurd hm (once p y h').2
        · intro o i hi
          rcases hmu3 o i hi with h1 | ⟨_, ho, h1⟩
          · obtain ⟨x, hx⟩ := hp.dom o i h1
            exact ⟨x, getO_app_some hx⟩
          · obtain ⟨x, hx⟩ := S.dom o i h1
            cases hr : getO rows o with
            | some y => exact absurd ho (hkey o y hr).1
            | none => exact ⟨x, by rw [getO_app_none hr, (k1 o ho).1]; exact hx⟩
        · intro o o' i i' b h1 h2 h3 h4
          rcases hmu3 o i h1 with g1 | ⟨_, ho, g1⟩ <;> rcases hmu3 o' i' h2 with g2 | ⟨_, ho', g2⟩
          · obtain ⟨p, I, X, a1, a2, _, a4, a5, _⟩ := hp.srcs o i b g1 h3
            obtain ⟨p', I', X', b1, b2, _, b4, b5, _⟩ := hp.srcs o' i' b g2 h4
            have := S.inj p p' I I' b a4 b4 a5 b5
            subst this
            exact hp.so1 o o' p a1 b1
          · obtain ⟨p, I, X, a1, a2, _, a4, a5, _⟩ := hp.srcs o i b g1 h3
            have := S.inj p o' I i' b a4 g2 a5 h4
            subst this
            exact absurd ho' (hsrc p a2)
          · obtain ⟨p, I, X, a1, a2, _, a4, a5, _⟩ := hp.srcs o' i' b g2 h4
            have := S.inj p o I i b a4 g1 a5 h3
            subst this
            exact absurd ho (hsrc p a2)
          · exact S.inj o o' i i' b g1 g2 h3 h4
        · intro o x i b hx hf hi hb
          rcases hmu3 o i hi with g1 | ⟨gn, ho, g1⟩
          · obtain ⟨p, I, X, a1, a2, _, a4, a5, a6, a7⟩ := hp.srcs o i b g1 hb
            exact S.unf p X I b a6 a7 a4 a5
          · have hr : getO rows o = none := by
              cases hr : getO rows o with
              | none => rfl
              | some y => exact absurd ho (hkey o y hr).1
            rw [getO_app_none hr, (k1 o ho).1] at hx
            exact S.unf o x i b hx hf g1 hb
        · intro o i b hi hb
          rcases hmu3 o i hi with g1 | ⟨_, ho, g1⟩
          · obtain ⟨p, I, X, a1, a2, _, a4, a5, _⟩ := hp.srcs o i b g1 hb
            exact S.own p I b a4 a5
          · exact S.own o i b g1 hb
        · exact S.lt
        · exact S.glob
        · exact S.chg
        · exact S.gn
        · exact S.gnew
        · intro k i hk' hi
          have hk64 := hkp k hk'
          obtain ⟨i', h1, h2⟩ := S.kept k i hk' hi
          obtain ⟨x, hx⟩ := S.dom k i' h1
          have hko : k ∈ h.os := by
            have h3 : (keysO ob).all (fun o => decide (64 ≤ o) || h.os.contains o) = true := by
              cases hh : (keysO ob).all (fun o => decide (64 ≤ o) || h.os.contains o) with
              | true => rfl
              | false => exact absurd hh hkeep
            have := List.all_eq_true.1 h3 k (keysO_mem.2 ⟨x, hx⟩)
            simp only [Bool.or_eq_true, decide_eq_true_eq, List.contains_eq_mem] at this
            rcases this with h | h
            · omega
            · exact h
          exact ⟨i', by rw [hmu2 k hko]; exact h1, h2⟩
        · exact S.imk
        · exact S.imn
        · intro o i b hi hb
          rcases hmu3 o i hi with g1 | ⟨_, ho, g1⟩
          · obtain ⟨p, I, X, a1, a2, a3, a4, a5, _⟩ := hp.srcs o i b g1 hb
            rcases S.place p I b a4 a5 with ⟨h1, _⟩ | h1
            · omega
            · exact .inr h1
          · exact S.place o i b g1 hb
        · exact S.fresh
      · cases H
end
end
section
open Go
theorem getO_delO (ids : List Nat) (o : Nat) : ∀ ob : OB, getO (delO ids ob) o = if o ∈ ids then none else getO ob o
  | [] => by simp [delO, getO]
  | x :: r => by
    simp only [delO]
    split
    · rename_i h
      rw [getO_delO ids o r]
      simp only [getO]
      split
      · rfl
      · rename_i hn
        rw [if_neg (fun e => hn (by subst e; simpa using h))]
    · rename_i h
      simp only [getO]
      split
      · rename_i e
        subst e
        rw [if_neg (by simpa using h)]
      · exact getO_delO ids o r
theorem getS_delS (ids : List Nat) (t : Nat) : ∀ sl : SL, getS (delS ids sl) t = .un ∨ (getS (delS ids sl) t = getS sl t ∧ ∀ o ∈ refs (getS sl t), o ∉ ids)
  | [] => .inl rfl
  | x :: r => by
    simp only [delS, getS]
    split
    · split
      · exact .inl rfl
      · rename_i h
        refine .inr ⟨rfl, fun o ho hi => h ?_⟩
        rw [List.any_eq_true]
        exact ⟨o, ho, by simpa using hi⟩
    · exact getS_delS ids t r
section
variable {P : Program} {E : Env} {C : Ctx}
theorem St.del {γ : Gh} {w : World} {tmps : Array Value} {sl : SL} {ob : OB} (S : St C γ w tmps sl ob) (hkp : ∀ k, C.kp k → k < 64) {ids : List Nat} (h64 : ∀ o ∈ ids, 64 ≤ o) (hr : (refsOB (delO ids ob)).any (ids.contains ·) = false) :
    St C { γ with mu := fun o => if o ∈ ids then none else γ.mu o } w tmps (delS ids sl) (delO ids ob) := by
  have mu : ∀ o i, (if o ∈ ids then none else γ.mu o) = some i → o ∉ ids ∧ γ.mu o = some i := by
    intro o i h
    split at h
    · cases h
    · exact ⟨by assumption, h⟩
  have mv : ∀ T : List Nat, (∀ o ∈ T, o ∉ ids) → Mv γ { γ with mu := fun o => if o ∈ ids then none else γ.mu o } w.heap w.heap T (fun o => o) := fun T hT =>
    ⟨fun o ho i hi => ⟨i, by simp only; rw [if_neg (hT o ho)]; exact hi, .inl rfl⟩, fun g b hb => ⟨hb, rfl⟩⟩
  have ob' : ∀ o x, getO (delO ids ob) o = some x → o ∉ ids ∧ getO ob o = some x := by
    intro o x h
    rw [getO_delO] at h
    split at h
    · cases h
    · exact ⟨by assumption, h⟩
  constructor
  · intro t
    rcases getS_delS ids t sl with h | ⟨h, h'⟩
    · rw [h]; exact RV_un
    · rw [h]; exact RAt_mono (mv _ h') (S.slot t)
  · intro o x hx
    obtain ⟨h1, h2⟩ := ob' o x hx
    obtain ⟨i, h3, h4⟩ := S.obj o x h2
    refine ⟨i, by simp only; rw [if_neg h1]; exact h3, ORel_mono (mv _ fun o' ho' hi => ?_) (fun _ _ => rfl) h4⟩
    have := List.any_eq_false.1 hr o' (refsOB_mem hx ho')
    simp at this
    exact this hi
  · intro o i hi
    obtain ⟨h1, h2⟩ := mu o i hi
    obtain ⟨x, hx⟩ := S.dom o i h2
    exact ⟨x, by rw [getO_delO, if_neg h1]; exact hx⟩
  · intro o o' i i' b h1 h2 h3 h4
    exact S.inj o o' i i' b (mu o i h1).2 (mu o' i' h2).2 h3 h4
  · intro o x i b hx hf hi hb
    exact S.unf o x i b (ob' o x hx).2 hf (mu o i hi).2 hb
  · exact fun o i b hi hb => S.own o i b (mu o i hi).2 hb
  · exact S.lt
  · exact S.glob
  · exact S.chg
  · exact S.gn
  · exact S.gnew
  · intro k i hk hi
    obtain ⟨i', h1, h2⟩ := S.kept k i hk hi
    refine ⟨i', ?_, h2⟩
    simp only
    rw [if_neg (fun h => by have := h64 k h; have := hkp k hk; omega)]
    exact h1
  · exact S.imk
  · exact S.imn
  · exact fun o i b hi hb => S.place o i b (mu o i hi).2 hb
  · exact S.fresh
theorem St.rename {γ : Gh} {w : World} {tmps : Array Value} {sl : SL} {ob : OB} (S : St C γ w tmps sl ob) (hkp : ∀ k, C.kp k → k < 64) {b o : Nat} {xb x : Obj'} {a c : List PV} {v : PV} {n : Nat} {s : List Nat} {i' : HI}
    (hb : getO ob b = some xb) (hpu : xb.pu = false) (hel : xb.els = [a ++ v :: c]) (hwd : wd v = 1) (hno : getO ob o = none) (h64 : 64 ≤ o) (hbs : b ∉ s) (hac : ∀ p ∈ refsL a ++ refsL c, p ∉ s) (hs64 : ∀ p ∈ s, 64 ≤ p) (hrefs : (refsOB (delO (b :: s) ob)).any (s.contains ·) = false)
    (hfro : x.fro = false) (hxpu : x.pu = true) (hor : ORel C.fid γ w.heap x i') (hver : i'.ver = 0)
    (hcell : ∀ cs off, RAt C.fid γ w.heap cs off v → ∃ a c, cs[off]? = some (.slice a n c) ∧ HSl i' 0 n a c)
    (hblk : ∀ bb, i'.blk = some bb → ∃ p I X, p ∈ s ∧ γ.mu p = some I ∧ I.blk = some bb ∧ getO ob p = some X ∧ X.fro = false) :
    St C { γ with mu := fun k => if k = o then some i' else if k ∈ s then none else γ.mu k } w tmps (delS s sl) ((o, x) :: (b, { xb with els := [a ++ .sl o 0 0 n :: c] }) :: delO s ob) := by
  have mo : γ.mu o = none := mu_none S hno
  have hbo : b ≠ o := by rintro rfl; rw [hno] at hb; cases hb
  obtain ⟨γ', hγ⟩ : ∃ γ' : Gh, { γ with mu := fun k => if k = o then some i' else if k ∈ s then none else γ.mu k } = γ' := ⟨_, rfl⟩
  have gmu : ∀ k, γ'.mu k = if k = o then some i' else if k ∈ s then none else γ.mu k := fun k => by rw [← hγ]
  have gim : γ'.im = γ.im := by rw [← hγ]
  have ggn : γ'.gn = γ.gn := by rw [← hγ]
  rw [hγ]
  have mv : ∀ T : List Nat, (∀ p ∈ T, p ∉ s) → Mv γ γ' w.heap w.heap T (fun o => o) := fun T hT =>
    ⟨fun p hp i hi => ⟨i, by
      rw [gmu]
      rw [if_neg (fun e => by subst e; rw [mo] at hi; cases hi), if_neg (hT p hp)]
      exact hi, .inl rfl⟩, fun g bb h => ⟨⟨by rw [gim]; exact h.1, fun e => by rw [ggn]; exact h.2 e⟩, rfl⟩⟩
  have mu3 : ∀ k i, γ'.mu k = some i → (k = o ∧ i = i') ∨ (k ≠ o ∧ k ∉ s ∧ γ.mu k = some i) := by
    intro k i h
    rw [gmu] at h
    split at h
    · rename_i e; injection h with h; exact .inl ⟨e, h.symm⟩
    · rename_i e
      split at h
      · cases h
      · rename_i e'; exact .inr ⟨e, e', h⟩
  have ob3 : ∀ k z, getO ((o, x) :: (b, { xb with els := [a ++ .sl o 0 0 n :: c] }) :: delO s ob) k = some z → (k = o ∧ z = x) ∨ (k = b ∧ z = { xb with els := [a ++ .sl o 0 0 n :: c] }) ∨ (k ≠ o ∧ k ≠ b ∧ k ∉ s ∧ getO ob k = some z) := by
    intro k z h
    simp only [getO] at h
    split at h
    · rename_i e; injection h with h; exact .inl ⟨e.symm, h.symm⟩
    · rename_i e
      split at h
      · rename_i e'; injection h with h; exact .inr (.inl ⟨e'.symm, h.symm⟩)
      · rename_i e'
        rw [getO_delO] at h
        split at h
        · cases h
        · rename_i e2; exact .inr (.inr ⟨fun h => e h.symm, fun h => e' h.symm, e2, h⟩)
  have blk' : ∀ bb, i'.blk = some bb → ∃ p I, p ∈ s ∧ γ.mu p = some I ∧ I.blk = some bb := fun bb h => by
    obtain ⟨p, I, X, h1, h2, h3, _⟩ := hblk bb h; exact ⟨p, I, h1, h2, h3⟩
  constructor
  · intro t
    rcases getS_delS s t sl with h | ⟨h, h'⟩
    · rw [h]; exact RV_un
    · rw [h]; exact RAt_mono (mv _ h') (S.slot t)
  · intro k z hz
    rcases ob3 k z hz with ⟨rfl, rfl⟩ | ⟨rfl, rfl⟩ | ⟨h1, h2, h3, h4⟩
    · exact ⟨i', by rw [gmu, if_pos rfl], ORel_mono (mv _ fun p hp => by simp [refsO, hxpu] at hp) (fun _ _ => rfl) hor⟩
    · obtain ⟨ib, hib, g1, g2, g3, g4⟩ := S.obj k xb hb
      refine ⟨ib, by rw [gmu, if_neg hbo, if_neg hbs]; exact hib, g1, g2, by rw [hel] at g3; simpa using g3, ?_⟩
      cases hbk : ib.blk with
      | none =>
        simp only [hbk] at g4
        rw [hel] at g3; simp at g3; omega
      | some bb =>
        simp only [hbk] at g4 ⊢
        obtain ⟨q1, cs, q2, q3, q4⟩ := g4
        refine ⟨q1, cs, q2, q3, .inr ⟨hpu, ?_⟩⟩
        rcases q4 with ⟨q4, _⟩ | ⟨_, q5⟩
        · rw [hpu] at q4; cases q4
        · rw [hel] at q5
          simp only [REls, and_true] at q5 ⊢
          obtain ⟨w1, w2⟩ := q5
          rw [RCells_app] at w2 ⊢
          simp only [RCells, hwd] at w2 ⊢
          obtain ⟨r1, ⟨_, r2⟩, r3⟩ := w2
          refine ⟨by rw [wds_app] at w1 ⊢; simp only [wds, hwd] at w1; simpa only [wds, wd] using w1, RCells_mono (mv _ fun p hp => hac p (List.mem_append_left _ hp)) r1, ⟨rfl, ?_⟩, RCells_mono (mv _ fun p hp => hac p (List.mem_append_right _ hp)) r3⟩
          obtain ⟨aa, cc, e1, e2⟩ := hcell cs _ r2
          simp only [RAt]
          exact ⟨i', by rw [gmu, if_pos rfl], Nat.zero_le _, aa, cc, e1, fun _ => e2⟩
    · obtain ⟨i, g1, g2⟩ := S.obj k z h4
      refine ⟨i, by rw [gmu, if_neg h1, if_neg h3]; exact g1, ORel_mono (mv _ fun p hp hps => ?_) (fun _ _ => rfl) g2⟩
      have hz' : getO (delO (b :: s) ob) k = some z := by rw [getO_delO, if_neg (by simp only [List.mem_cons, not_or]; exact ⟨h2, h3⟩)]; exact h4
      have := List.any_eq_false.1 hrefs p (refsOB_mem hz' hp)
      simp at this
      exact this hps
  · intro k i hi
    rcases mu3 k i hi with ⟨rfl, rfl⟩ | ⟨h1, h2, h3⟩
    · exact ⟨x, by simp [getO]⟩
    · obtain ⟨z, hz⟩ := S.dom k i h3
      by_cases e : k = b
      · subst e; exact ⟨_, by simp only [getO, if_true]; rw [if_neg (fun e => hbo e.symm)]⟩
      · exact ⟨z, by simp only [getO]; rw [if_neg (fun e => h1 e.symm), if_neg (fun e' => e e'.symm), getO_delO, if_neg h2]; exact hz⟩
  · intro k k' i i2 bb h1 h2 h3 h4
    rcases mu3 k i h1 with ⟨e1, rfl⟩ | ⟨_, e2, e3⟩ <;> rcases mu3 k' i2 h2 with ⟨f1, rfl⟩ | ⟨_, f2, f3⟩
    · rw [e1, f1]
    · obtain ⟨p, I, g1, g2, g3⟩ := blk' bb h3
      exact absurd (S.inj p k' I i2 bb g2 f3 g3 h4 ▸ g1) f2
    · obtain ⟨p, I, g1, g2, g3⟩ := blk' bb h4
      exact absurd (S.inj p k I i bb g2 e3 g3 h3 ▸ g1) e2
    · exact S.inj k k' i i2 bb e3 f3 h3 h4
  · intro k z i bb hz hf hi hb'
    rw [gim]
    rcases mu3 k i hi with ⟨rfl, rfl⟩ | ⟨e1, e2, e3⟩
    · obtain ⟨p, I, X, g1, g2, g3, g4, g5⟩ := hblk bb hb'
      exact S.unf p X I bb g4 g5 g2 g3
    · rcases ob3 k z hz with ⟨h, _⟩ | ⟨rfl, rfl⟩ | ⟨_, _, _, h4⟩
      · exact absurd h e1
      · exact S.unf k xb i bb hb hf e3 hb'
      · exact S.unf k z i bb h4 hf e3 hb'
  · intro k i bb hi hb'
    rcases mu3 k i hi with ⟨rfl, rfl⟩ | ⟨_, _, e3⟩
    · obtain ⟨p, I, g1, g2, g3⟩ := blk' bb hb'
      exact S.own p I bb g2 g3
    · exact S.own k i bb e3 hb'
  · rw [gim]; exact S.lt
  · intro g xs hg
    obtain ⟨h1, cs, h2, h3⟩ := S.glob g xs hg
    exact ⟨((mv [] (fun p hp => by cases hp)).q true g h1).1, cs, h2, PCells_mono (fun b hb => ⟨((mv [] (fun p hp => by cases hp)).q true b hb).1, rfl⟩) _ _ _ h3⟩
  · exact S.chg
  · rw [ggn]; exact S.gn
  · exact S.gnew
  · intro k i hk hi
    obtain ⟨i2, h1, h2⟩ := S.kept k i hk hi
    have hk64 := hkp k hk
    refine ⟨i2, ?_, h2⟩
    rw [gmu, if_neg (fun e => by omega), if_neg (fun h => by have := hs64 k h; omega)]
    exact h1
  · intro bb hb'
    rw [gim]; exact S.imk bb hb'
  · intro bb hb'
    rw [gim] at hb'; exact S.imn bb hb'
  · intro k i bb hi hb'
    rcases mu3 k i hi with ⟨rfl, rfl⟩ | ⟨_, _, e3⟩
    · obtain ⟨p, I, g1, g2, g3⟩ := blk' bb hb'
      rcases S.place p I bb g2 g3 with ⟨h, _⟩ | h
      · have := hs64 p g1; omega
      · exact .inr h
    · exact S.place k i bb e3 hb'
  · exact S.fresh
theorem St.sameOb {γ : Gh} {w : World} {tmps : Array Value} {sl : SL} {ob ob' : OB} (S : St C γ w tmps sl ob) (h : ∀ k, getO ob' k = getO ob k) : St C γ w tmps sl ob' :=
  { S with
    obj := fun o x hx => S.obj o x (by rw [← h]; exact hx)
    dom := fun o i hi => by obtain ⟨x, hx⟩ := S.dom o i hi; exact ⟨x, by rw [h]; exact hx⟩
    unf := fun o x i b hx => S.unf o x i b (by rw [← h]; exact hx) }
theorem del_same (o b : Nat) (x y : Obj') (s : List Nat) (ob : OB) (k : Nat) : getO ((o, x) :: (b, y) :: delO (b :: s) ob) k = getO ((o, x) :: (b, y) :: delO s ob) k := by
  simp only [getO]
  split
  · rfl
  · split
    · rfl
    · rename_i h1 h2
      rw [getO_delO, getO_delO]
      by_cases e : k ∈ s
      · rw [if_pos e, if_pos (List.mem_cons_of_mem _ e)]
      · rw [if_neg e, if_neg (by simp only [List.mem_cons, not_or]; exact ⟨fun e' => h2 e'.symm, e⟩)]
theorem renE_ok {γ : Gh} {w : World} {tmps : Array Value} {sl : SL} {ob : OB} (S : St C γ w tmps sl ob) (hkp : ∀ k, C.kp k → k < 64) {b o wdt : Nat} {xb : Obj'} {a c : List PV} {v : PV} (hb : getO ob b = some xb) (hpu : xb.pu = false) (hel : xb.els = [a ++ v :: c]) (hwd : wd v = 1) {y : SL × OB}
    (H : renE sl ob b o xb a c (asR ob wdt v) = some y) : ∃ γ', St C γ' w tmps y.1 y.2 := by
  unfold renE at H
  split at H
  case h_2 => cases H
  rename_i q hq
  split at H
  case isFalse => cases H
  rename_i hc
  obtain ⟨hno, h64, hbs, hac, hrefs⟩ := hc
  injection H with H
  subst H
  obtain ⟨x, n, s⟩ := q
  simp only at hbs hac hrefs ⊢
  have hbs' : b ∉ s := by simpa using hbs
  have hac' : ∀ p ∈ refsL a ++ refsL c, p ∉ s := fun p hp => by have := List.any_eq_false.1 hac p hp; simpa using this
  unfold asR at hq
  split at hq
  · simp only [Option.some.injEq, Prod.mk.injEq] at hq
    obtain ⟨rfl, rfl, rfl⟩ := hq
    exact ⟨_, St.sameOb (ob := _ :: _ :: delO [] ob) (S.rename (x := row [] wdt true) (i' := ⟨0, none, wdt, 0⟩) hkp hb hpu hel hwd hno h64 hbs' hac' (fun p hp => by cases hp) hrefs rfl rfl ⟨rfl, fun c h => by simp [row] at h, by simp [row], rfl⟩ rfl
      (fun cs off h => by
        simp only [RAt] at h
        obtain ⟨aa, e, _⟩ := h
        exact ⟨aa, 0, e, rfl, Nat.le_refl _, fun hh => by omega⟩) (fun bb h => by cases h)) (del_same _ _ _ _ _ _)⟩
  · rename_i o' ver lo n'
    cases hX : getO ob o' with
    | none => simp [hX] at hq
    | some X =>
      simp only [hX] at hq
      split at hq
      · rename_i hcc
        obtain ⟨c0, c1, c2, c3, c4, rfl, rfl⟩ := hcc
        simp only [Option.some.injEq, Prod.mk.injEq] at hq
        obtain ⟨rfl, rfl, rfl⟩ := hq
        obtain ⟨I, hI, q1, q2, q3, q4⟩ := S.obj o' X hX
        exact ⟨_, St.sameOb (ob := _ :: _ :: delO [o'] ob) (S.rename (x := { X with ver := 0, cap := none }) (i' := { I with ver := 0 }) hkp hb hpu hel hwd hno h64 hbs' hac' (fun p hp => by simp at hp; omega) hrefs c2 c1 ⟨rfl, (fun c h => by cases h), q3, q4⟩ rfl
          (fun cs off h => by
            simp only [RAt] at h
            obtain ⟨I', hI', hvv, aa, cc, e, hh⟩ := h
            rw [hI] at hI'; injection hI' with hI'; subst hI'
            obtain ⟨g1, g2, g3⟩ := hh (by omega)
            exact ⟨aa, cc, e, g1, g2, g3⟩) (fun bb h => ⟨o', I, X, by simp, hI, h, hX, c2⟩)) (del_same _ _ _ _ _ _)⟩
      · cases hq
  · cases hq
theorem renC_ok {γ : Gh} {w : World} {tmps : Array Value} {sl : SL} {ob : OB} (S : St C γ w tmps sl ob) (hkp : ∀ k, C.kp k → k < 64) {x : CC} {y : SL × OB} (H : renC x sl ob = some y) : ∃ γ', St C γ' w tmps y.1 y.2 := by
  obtain ⟨b, off, o, wdt⟩ := x
  simp only [renC] at H
  unfold renX at H
  split at H
  case h_2 => cases H
  rename_i xb hb
  split at H
  case isFalse => cases H
  rename_i hpu
  split at H
  case h_2 => cases H
  rename_i el hel
  unfold renA at H
  split at H
  case h_2 => cases H
  rename_i a v c ha hc
  have he : el = a ++ v :: c := (takeW_dropW ha hc).1
  split at H
  · injection H with H; subst H; exact ⟨γ, S⟩
  · split at H
    case isFalse => cases H
    rename_i hcc
    obtain ⟨hwd, h64, hbo, hrefs⟩ := hcc
    have S1 := S.del hkp (ids := [o]) (fun p hp => by simp at hp; omega) hrefs
    refine renE_ok S1 hkp (by rw [getO_delO, if_neg (by simpa using hbo)]; exact hb) hpu (by rw [hel, he]) hwd H
theorem renCs_ok {w : World} {tmps : Array Value} (hkp : ∀ k, C.kp k → k < 64) : ∀ (cs : List CC) {γ : Gh} {sl : SL} {ob : OB} {y : SL × OB}, St C γ w tmps sl ob → renCs cs sl ob = some y → ∃ γ', St C γ' w tmps y.1 y.2
  | [], γ, sl, ob, y, S, H => by
    simp only [renCs, Option.some.injEq] at H
    subst H
    exact ⟨γ, S⟩
  | c :: r, γ, sl, ob, y, S, H => by
    simp only [renCs] at H
    obtain ⟨z, hz, H⟩ := bnd_some H
    obtain ⟨γ1, S1⟩ := renC_ok S hkp hz
    exact renCs_ok hkp r S1 H
theorem headH_ok (hkp : ∀ k, C.kp k → k < 64) {γ : Gh} {w : World} {tmps : Array Value} {sl : SL} {ob : OB} (S : St C γ w tmps sl ob) {h : Hd} {x : SL × OB} (H : headH h sl ob = some x) : ∃ γ', St C γ' w tmps x.1 x.2 := by
  unfold headH at H
  obtain ⟨y, hy, H⟩ := bnd_some H
  have S0 : St C γ w tmps (keepS sl h.ts) ob := by
    refine { S with slot := fun t => ?_ }
    rcases keepS_get sl h.ts t with e | e
    · rw [e]; exact S.slot t
    · rw [e]; exact RV_un
  obtain ⟨γ1, S1⟩ := renCs_ok hkp h.cs S0 hy
  exact head_ok' hkp S1 H
theorem renC_slot {x : CC} {sl : SL} {ob : OB} {y : SL × OB} (H : renC x sl ob = some y) (t : Nat) : getS y.1 t = getS sl t ∨ getS y.1 t = .un := by
  obtain ⟨b, off, o, wdt⟩ := x
  simp only [renC] at H
  unfold renX at H
  split at H
  case h_2 => cases H
  split at H
  case isFalse => cases H
  split at H
  case h_2 => cases H
  unfold renA at H
  split at H
  case h_2 => cases H
  split at H
  · injection H with H; subst H; exact .inl rfl
  · split at H
    case isFalse => cases H
    unfold renE at H
    split at H
    case h_2 => cases H
    rename_i q _
    split at H
    case isFalse => cases H
    injection H with H
    subst H
    rcases getS_delS q.2.2 t (delS [o] sl) with h | ⟨h, _⟩
    · exact .inr h
    · rcases getS_delS [o] t sl with h' | ⟨h', _⟩
      · exact .inr (h.trans h')
      · exact .inl (h.trans h')
theorem renCs_slot : ∀ (cs : List CC) {sl : SL} {ob : OB} {y : SL × OB}, renCs cs sl ob = some y → ∀ t, getS y.1 t = getS sl t ∨ getS y.1 t = .un
  | [], sl, ob, y, H, t => by
    simp only [renCs, Option.some.injEq] at H
    subst H
    exact .inl rfl
  | c :: r, sl, ob, y, H, t => by
    simp only [renCs] at H
    obtain ⟨z, hz, H⟩ := bnd_some H
    rcases renCs_slot r H t with h | h
    · rcases renC_slot hz t with h' | h'
      · exact .inl (h.trans h')
      · exact .inr (h.trans h')
    · exact .inr h
end
end
end Go.Proofs.YtmhpkdcnhgmblaaDoor
