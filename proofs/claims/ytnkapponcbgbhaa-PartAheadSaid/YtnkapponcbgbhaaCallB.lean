import Derived.Test.YtnkapponcbgbhaaOpsZd
set_option linter.all false
namespace Go.Proofs.Ytnkapponcbgbhaa
section
open Go
structure Ret (C : Ctx) (γ : Gh) (w : World) (v : Value) (r : PV) (m : Nat) (out : List Obj') : Prop where
  rv : RV C.fid γ w.heap v r
  len : m ≤ out.length
  obj : ∀ k x, out[k]? = some x → ∃ i, γ.mu k = some i ∧ ORel C.fid γ w.heap x i
  dom : ∀ k i, γ.mu k = some i → k < out.length
  inj : ∀ o o' i i' b, γ.mu o = some i → γ.mu o' = some i' → i.blk = some b → i'.blk = some b → o = o'
  unf : ∀ k x i b, out[k]? = some x → x.fro = false → γ.mu k = some i → i.blk = some b → ¬ γ.im b
  own : ∀ o i b, γ.mu o = some i → i.blk = some b → C.A b ∨ C.w0.heap.size ≤ b
  lt : ∀ b, γ.im b → b < w.heap.size
  chg : Chg (fun b => C.A b ∨ C.w0.heap.size ≤ b) C.w0 w
  gn : γ.gn = C.gn
  kept : ∀ k i, k < m → C.g0.mu k = some i → ∃ i', γ.mu k = some i' ∧ (i' = i ∨ i.ver < i'.ver)
  imk : ∀ b, C.g0.im b → γ.im b ∧ w.heap[b]? = C.w0.heap[b]?
  imn : ∀ b, γ.im b → C.g0.im b ∨ (C.A b ∨ C.w0.heap.size ≤ b)
  place : ∀ k i b, γ.mu k = some i → i.blk = some b → (k < m ∧ ∃ j, C.g0.mu k = some j ∧ j.blk = some b) ∨ C.N b
def Bodied (P : Program) (f : FuncId) : Prop := ∃ fn, P.funcs[f]? = some fn ∧ fn.body.isNone = false ∧ (fn.name == "runtime.NumGoroutine") = false
def Sound (P : Program) (fid : Nat → Nat) (glob : Nat → Option (List PV)) (Φ : Sem') : Prop :=
  ∀ (f0 : FuncId) (as : List PV) (os : List Obj') (r : PV) (out : List Obj'), Φ (fid f0) as os = some (r, out) → os.length ≤ out.length →
    ∀ (C : Ctx) (args : Array Value), C.fid = fid → C.glob = glob → args.size = as.length → os.length ≤ 64 → (∀ k, C.kp k ↔ k < 64) → St C C.g0 C.w0 args (zipN 0 as) (zipN 0 os) →
      Calls P f0 args C.w0 fun e w' => ∃ v γ', e = .returned v ∧ Ret C γ' w' v r os.length out ∧ Bodied P f0
theorem getS_zip : ∀ (l : List PV) (k t : Nat), getS (zipN k l) t = if k ≤ t then l.getD (t - k) .un else .un
  | [], k, t => by simp [zipN, getS]
  | v :: r, k, t => by
    simp only [zipN, getS]
    by_cases h : k = t
    · subst h; simp
    · rw [if_neg h, getS_zip r (k + 1) t]
      by_cases h2 : k ≤ t
      · rw [if_pos (by omega), if_pos h2, show t - k = (t - (k + 1)) + 1 by omega]; simp
      · rw [if_neg (by omega), if_neg h2]
theorem getO_zip : ∀ (l : List Obj') (k t : Nat), getO (zipN k l) t = if k ≤ t then l[t - k]? else none
  | [], k, t => by simp [zipN, getO]
  | v :: r, k, t => by
    simp only [zipN, getO]
    by_cases h : k = t
    · subst h; simp
    · rw [if_neg h, getO_zip r (k + 1) t]
      by_cases h2 : k ≤ t
      · rw [if_pos (by omega), if_pos h2, show t - k = (t - (k + 1)) + 1 by omega]; simp
      · rw [if_neg (by omega), if_neg h2]
theorem reach_ok (ob : OB) : ∀ (k : Nat) (todo acc ids : List Nat), reach ob k todo acc = some ids → acc.Nodup → (∀ o ∈ acc, ∃ x, getO ob o = some x ∧ ∀ o' ∈ refsO x, o' ∈ acc ∨ o' ∈ todo) →
    ids.Nodup ∧ (∀ o ∈ acc, o ∈ ids) ∧ (∀ o ∈ todo, o ∈ ids) ∧ ∀ o ∈ ids, ∃ x, getO ob o = some x ∧ ∀ o' ∈ refsO x, o' ∈ ids
  | k, [], acc, ids, H, hn, hc => by
    have e : acc = ids := by cases k <;> simpa only [reach, Option.some.injEq] using H
    subst e
    refine ⟨hn, fun o h => h, (fun o h => by cases h), fun o ho => ?_⟩
    obtain ⟨x, hx, h⟩ := hc o ho
    exact ⟨x, hx, fun o' ho' => (h o' ho').resolve_right (by simp)⟩
  | 0, _ :: _, _, _, H, _, _ => by simp [reach] at H
  | k + 1, o :: todo, acc, ids, H, hn, hc => by
    simp only [reach] at H
    split at H
    · rename_i hin
      have hin : o ∈ acc := by simpa using hin
      obtain ⟨h1, h2, h3, h4⟩ := reach_ok ob k todo acc ids H hn (fun p hp => by
        obtain ⟨x, hx, h⟩ := hc p hp
        exact ⟨x, hx, fun o' ho' => by
          rcases h o' ho' with h | h
          · exact .inl h
          · rcases List.mem_cons.1 h with rfl | h
            · exact .inl hin
            · exact .inr h⟩)
      exact ⟨h1, h2, fun p hp => by
        rcases List.mem_cons.1 hp with rfl | hp
        · exact h2 _ hin
        · exact h3 p hp, h4⟩
    · rename_i hin
      have hin : o ∉ acc := by simpa using hin
      split at H
      · rename_i x hx
        obtain ⟨h1, h2, h3, h4⟩ := reach_ok ob k (todo ++ refsO x) (acc ++ [o]) ids H (by
          rw [List.nodup_append]; exact ⟨hn, by simp, fun a ha b hb => by simp at hb; subst hb; intro e; subst e; exact hin ha⟩) (fun p hp => by
          rcases List.mem_append.1 hp with hp | hp
          · obtain ⟨y, hy, h⟩ := hc p hp
            refine ⟨y, hy, fun o' ho' => ?_⟩
            rcases h o' ho' with h | h
            · exact .inl (List.mem_append_left _ h)
            · rcases List.mem_cons.1 h with rfl | h
              · exact .inl (by simp)
              · exact .inr (List.mem_append_left _ h)
          · simp at hp; subst hp
            exact ⟨x, hx, fun o' ho' => .inr (List.mem_append_right _ ho')⟩)
        exact ⟨h1, fun p hp => h2 p (List.mem_append_left _ hp), fun p hp => by
          rcases List.mem_cons.1 hp with rfl | hp
          · exact h2 _ (by simp)
          · exact h3 p (List.mem_append_left _ hp), h4⟩
      · cases H
theorem reach_len (ob : OB) : ∀ (k : Nat) (todo acc ids : List Nat), reach ob k todo acc = some ids → ids.length ≤ acc.length + k
  | k, [], acc, ids, H => by
    have e : acc = ids := by cases k <;> simpa only [reach, Option.some.injEq] using H
    subst e; omega
  | 0, _ :: _, _, _, H => by simp [reach] at H
  | k + 1, o :: todo, acc, ids, H => by
    simp only [reach] at H
    split at H
    · have := reach_len ob k todo acc ids H; omega
    · split at H
      · have := reach_len ob k _ _ ids H; simp at this; omega
      · cases H
theorem length_renEls (f : Nat → Nat) : ∀ l, (renEls f l).length = l.length
  | [] => rfl
  | x :: r => by simp only [renEls, List.length_cons, length_renEls f r]
theorem getOs_ok (ob : OB) : ∀ (ids : List Nat) (os : List Obj'), getOs ob ids = some os → os.length = ids.length ∧ ∀ (k o : Nat), ids[k]? = some o → ∃ x, os[k]? = some x ∧ getO ob o = some x
  | [], os, H => by simp only [getOs, Option.some.injEq] at H; subst H; exact ⟨rfl, fun k o h => by simp at h⟩
  | o :: r, os, H => by
    simp only [getOs] at H
    split at H
    · rename_i x y hx hy
      injection H with H; subst H
      obtain ⟨h1, h2⟩ := getOs_ok ob r y hy
      refine ⟨by simp [h1], fun k p hk => ?_⟩
      rcases k with _ | k
      · simp at hk; subst hk; exact ⟨x, rfl, hx⟩
      · simpa using h2 k p (by simpa using hk)
    · cases H
theorem nth_idx : ∀ (l : List Nat) (o : Nat), o ∈ l → nth l (idx l o) = o ∧ idx l o < l.length
  | [], _, h => by cases h
  | x :: r, o, h => by
    simp only [idx]
    by_cases e : x = o
    · rw [if_pos e]; exact ⟨e, by simp⟩
    · rw [if_neg e]
      have h := (List.mem_cons.1 h).resolve_left (fun h => e h.symm)
      obtain ⟨h1, h2⟩ := nth_idx r o h
      exact ⟨h1, by simp; omega⟩
theorem nth_get : ∀ (l : List Nat) (k : Nat), k < l.length → l[k]? = some (nth l k)
  | [], _, h => by simp at h
  | x :: r, 0, _ => rfl
  | x :: r, k + 1, h => by simp only [List.getElem?_cons_succ, nth]; exact nth_get r k (by simpa using h)
theorem idx_nth : ∀ (l : List Nat) (k : Nat), l.Nodup → k < l.length → idx l (nth l k) = k
  | [], _, _, h => by simp at h
  | x :: r, 0, _, _ => by simp [nth, idx]
  | x :: r, k + 1, hn, h => by
    have hk : k < r.length := by simpa using h
    have hm : nth r k ∈ r := List.mem_of_getElem? (nth_get r k hk)
    have hne : ¬ (x = nth r k) := fun e => (List.nodup_cons.1 hn).1 (e ▸ hm)
    show (if x = nth r k then 0 else idx r (nth r k) + 1) = k + 1
    rw [if_neg hne, idx_nth r k (List.nodup_cons.1 hn).2 hk]
section
variable {C : Ctx} {γ : Gh} {w : World} {act : Act} {sl : SL} {ob : OB}
def blkOf (γ : Gh) (L : List Nat) (b : Nat) : Prop := ∃ o i, o ∈ L ∧ γ.mu o = some i ∧ i.blk = some b
def Gh.lend (γ : Gh) (w : World) (bor ids : List Nat) : Gh :=
  { mu := γ.mu, im := fun b => γ.im b ∨ blkOf γ bor b, gn := fun b => (γ.im b ∧ γ.gn b) ∨ blkOf γ ids b ∨ w.heap.size ≤ b }
def Gh.ren (γ : Gh) (ids : List Nat) : Gh := { γ with mu := fun k => if k < ids.length then γ.mu (nth ids k) else none }
def Ctx.enter (C : Ctx) (γ : Gh) (w : World) (bor ids : List Nat) : Ctx :=
  { fid := C.fid, glob := C.glob, w0 := w, A := blkOf γ ids, gn := (γ.lend w bor ids).gn, g0 := (γ.lend w bor ids).ren ids, kp := fun k => k < 64, N := fun b => w.heap.size ≤ b }
theorem lend_lent (γ : Gh) (w : World) (bor ids : List Nat) : Lent γ (γ.lend w bor ids) bor :=
  ⟨fun _ _ h => h, fun _ _ h => ⟨.inl h.1, fun e => .inl ⟨h.1, h.2 e⟩⟩, fun o i _ ho hi hb => .inr ⟨o, i, ho, hi, hb⟩⟩
theorem getD_RL {fid : Nat → Nat} {γ : Gh} {h : Array Obj} {args : Array Value} {as : List PV} (H : RL fid γ h args 0 as) (hs : args.size = as.length) (t : Nat) : RV fid γ h (args.getD t undef) (getS (zipN 0 as) t) := by
  rw [getS_zip, if_pos (Nat.zero_le _), Nat.sub_zero]
  by_cases ht : t < as.length
  · have e : as[t]? = some as[t] := List.getElem?_eq_getElem ht
    obtain ⟨x, hx, hv⟩ := RL_get t _ H e
    rw [Nat.zero_add] at hx
    have h1 : args.getD t undef = x := by simp [hx]
    have h2 : as.getD t .un = as[t] := by simp [ht]
    rw [h1, h2]; exact hv
  · have h2 : as.getD t .un = .un := by simp [List.getElem?_eq_none (Nat.le_of_not_lt ht)]
    rw [h2]; exact RV_un
theorem enter_ok (S : St C γ w act.tmps sl ob) {args : Array Value} {as : List PV} {bor ids : List Nat} {os : List Obj'} (hR : RL C.fid (γ.lend w bor ids) w.heap args 0 as) (hs : args.size = as.length)
    {todo : List Nat} (hsub : ∀ o ∈ refsL as, o ∈ todo) (hre : reach ob 20 todo [] = some ids) (hdj : ids.any (bor.contains ·) = false) (hos : getOs ob ids = some os) :
    St (C.enter γ w bor ids) (C.enter γ w bor ids).g0 (C.enter γ w bor ids).w0 args (zipN 0 (renL (idx ids) as)) (zipN 0 (os.map (renO (idx ids)))) := by
  obtain ⟨hnd, _, hin, hcl⟩ := reach_ok ob 20 _ _ _ hre (by simp) (fun o h => by cases h)
  obtain ⟨hol, hog⟩ := getOs_ok ob ids os hos
  have hdj' : ∀ o, o ∈ ids → o ∉ bor := by
    intro o ho hb
    have := List.any_eq_false.1 hdj o ho
    simp at this; exact this hb
  have hq : ∀ g b, γ.q g b → (γ.lend w bor ids).q g b := (lend_lent γ w bor ids).q
  have mv : ∀ {S'}, (∀ o ∈ S', o ∈ ids) → Mv (γ.lend w bor ids) ((γ.lend w bor ids).ren ids) w.heap w.heap S' (idx ids) := by
    intro S' hS
    refine ⟨fun o ho i hi => ⟨i, ?_, .inl rfl⟩, fun g b h => ⟨h, rfl⟩⟩
    obtain ⟨h1, h2⟩ := nth_idx ids o (hS o ho)
    simp only [Gh.ren, h2, if_true, h1]; exact hi
  have hmu : ∀ k i, ((γ.lend w bor ids).ren ids).mu k = some i → k < ids.length ∧ γ.mu (nth ids k) = some i := by
    intro k i h
    simp only [Gh.ren] at h
    split at h
    · rename_i hk; exact ⟨hk, h⟩
    · cases h
  have hobj : ∀ k x, getO (zipN 0 (os.map (renO (idx ids)))) k = some x → ∃ X, k < ids.length ∧ getO ob (nth ids k) = some X ∧ x = renO (idx ids) X := by
    intro k x h
    rw [getO_zip, if_pos (Nat.zero_le _), Nat.sub_zero, List.getElem?_map] at h
    obtain ⟨X, hX, rfl⟩ := Option.map_eq_some_iff.1 h
    have hk : k < ids.length := by rw [← hol]; exact (List.getElem?_eq_some_iff.1 hX).1
    obtain ⟨Y, hY, hg⟩ := hog k _ (nth_get ids k hk)
    rw [hX] at hY; injection hY with hY; subst hY
    exact ⟨X, hk, hg, rfl⟩
  constructor
  · intro t
    have h1 : RL C.fid ((γ.lend w bor ids).ren ids) w.heap args 0 (renL (idx ids) as) := RL_map as args 0 (mv fun o ho => hin o (hsub o ho)) hR
    exact getD_RL h1 (by rw [length_renL]; exact hs) t
  · intro k x hx
    obtain ⟨X, hk, hX, rfl⟩ := hobj k x hx
    obtain ⟨i, hi, h1, h2, h3, h4⟩ := S.obj _ X hX
    refine ⟨i, by simp only [Ctx.enter, Gh.ren, hk, if_true]; exact hi, ?_⟩
    obtain ⟨Y, hY, hcl'⟩ := hcl _ (List.mem_of_getElem? (nth_get ids k hk))
    rw [hX] at hY; injection hY with hY; subst hY
    have hlend : ORel C.fid (γ.lend w bor ids) w.heap X i := ORel_mono ((lend_lent γ w bor ids).mv w.heap _) (fun _ _ => rfl) ⟨h1, h2, h3, h4⟩
    show ORel C.fid ((γ.lend w bor ids).ren ids) w.heap (renO (idx ids) X) i
    unfold renO
    split
    · rename_i hp
      obtain ⟨h1, h2, h3, h4⟩ := hlend
      refine ⟨h1, h2, h3, ?_⟩
      cases hbk : i.blk with
      | none => simpa only [hbk] using h4
      | some b =>
        simp only [hbk] at h4 ⊢
        obtain ⟨g1, cs, g2, g3, g4⟩ := h4
        refine ⟨g1, cs, g2, g3, ?_⟩
        rcases g4 with ⟨g4, g5⟩ | ⟨g4, _⟩
        · exact .inl ⟨g4, g5⟩
        · rw [hp] at g4; cases g4
    · rename_i hp
      obtain ⟨h1, h2, h3, h4⟩ := hlend
      refine ⟨h1, h2, by rw [length_renEls]; exact h3, ?_⟩
      cases hbk : i.blk with
      | none => simpa only [hbk] using h4
      | some b =>
        simp only [hbk] at h4 ⊢
        obtain ⟨g1, cs, g2, g3, g4⟩ := h4
        refine ⟨g1, cs, g2.els (y := { X with els := renEls (idx ids) X.els }) rfl rfl (fun e => by rw [e]; rfl), g3, ?_⟩
        rcases g4 with ⟨g4, _⟩ | ⟨g4, g5⟩
        · exact absurd g4 hp
        · refine .inr ⟨g4, REls_map _ _ _ _ (mv ?_) g5⟩
          intro o ho
          refine hcl' o ?_
          unfold refsO; rw [if_neg hp]; exact ho
  · intro k i hi
    obtain ⟨hk, _⟩ := hmu k i hi
    obtain ⟨x, hx, _⟩ := hog k _ (nth_get ids k hk)
    exact ⟨renO (idx ids) x, by rw [getO_zip, if_pos (Nat.zero_le _), Nat.sub_zero, List.getElem?_map, hx]; rfl⟩
  · intro k k' i i' b h1 h2 h3 h4
    obtain ⟨hk, g1⟩ := hmu k i h1
    obtain ⟨hk', g2⟩ := hmu k' i' h2
    have := S.inj _ _ i i' b g1 g2 h3 h4
    have := congrArg (idx ids) this
    rwa [idx_nth ids k hnd hk, idx_nth ids k' hnd hk'] at this
  · intro k x i b hx hf hi hb him
    obtain ⟨X, hk, hX, rfl⟩ := hobj k x hx
    obtain ⟨_, g1⟩ := hmu k i hi
    have hf' : X.fro = false := by unfold renO at hf; split at hf <;> exact hf
    rcases him with him | ⟨o, j, ho, hj, hjb⟩
    · exact S.unf _ X i b hX hf' g1 hb him
    · have := S.inj _ _ i j b g1 hj hb hjb
      exact hdj' _ (List.mem_of_getElem? (nth_get ids k hk)) (this ▸ ho)
  · intro k i b hi hb
    obtain ⟨hk, g1⟩ := hmu k i hi
    exact .inl ⟨_, i, List.mem_of_getElem? (nth_get ids k hk), g1, hb⟩
  · intro b hb
    rcases hb with hb | ⟨o, j, _, hj, hjb⟩
    · exact S.lt b hb
    · exact blk_lt S hj hjb
  · intro g xs hg
    obtain ⟨h1, cs, h2, h3⟩ := S.glob g xs hg
    exact ⟨hq true g h1, cs, h2, PCells_mono (fun b hb => ⟨hq true b hb, rfl⟩) _ _ _ h3⟩
  · exact Chg.refl _ _
  · rfl
  · intro b hb
    exact .inr hb
  · intro k i _ hi
    exact ⟨i, hi, .inl rfl⟩
  · intro b hb
    exact ⟨hb, rfl⟩
  · intro b hb
    exact .inl hb
  · intro k i b hi hb
    obtain ⟨hk', _⟩ := hmu k i hi
    have := reach_len ob 20 _ _ _ hre
    simp at this
    exact .inl ⟨by omega, i, hi, hb⟩
  · exact fun b hb => hb
end
end
section
open Go
theorem putOs_ok (f : Nat → Nat) : ∀ (ids : List Nat) (out : List Obj') (u : OB) (rest : List Obj'), putOs f ids out = some (u, rest) →
    rest = out.drop ids.length ∧ ids.length ≤ out.length ∧ (∀ o, getO u o = none ↔ o ∉ ids) ∧ ∀ (o : Nat) (x : Obj'), getO u o = some x → ∃ (k : Nat) (X : Obj'), ids[k]? = some o ∧ out[k]? = some X ∧ x = renO f X
  | [], out, u, rest, H => by
    simp only [putOs, Option.some.injEq, Prod.mk.injEq] at H
    obtain ⟨rfl, rfl⟩ := H
    exact ⟨by simp, by simp, fun o => by simp [getO], fun o x h => by simp [getO] at h⟩
  | o :: r, [], u, rest, H => by simp [putOs] at H
  | o :: r, X :: s, u, rest, H => by
    simp only [putOs] at H
    cases hp : putOs f r s with
    | none => simp [hp] at H
    | some y =>
      simp only [hp, Option.map_some, Option.some.injEq, Prod.mk.injEq] at H
      obtain ⟨rfl, rfl⟩ := H
      obtain ⟨h1, h2, h3, h4⟩ := putOs_ok f r s y.1 y.2 hp
      refine ⟨by simpa using h1, by simp; omega, fun p => ?_, fun p x hx => ?_⟩
      · simp only [getO, List.mem_cons, not_or]
        by_cases e : o = p
        · simp [e]
        · rw [if_neg e, h3]; simp [Ne.symm e]
      · simp only [getO] at hx
        split at hx
        · rename_i e; subst e
          injection hx with hx
          exact ⟨0, X, rfl, rfl, hx.symm⟩
        · obtain ⟨k, Y, g1, g2, g3⟩ := h4 p x hx
          exact ⟨k + 1, Y, by simpa using g1, by simpa using g2, g3⟩
theorem newOs_ok (ob : OB) (f : Nat → Nat) : ∀ (d : Nat) (rest : List Obj') (u : OB), newOs ob f d rest = some u →
    (∀ o, getO u o = none ↔ ¬ (d ≤ o ∧ o < d + rest.length)) ∧ (∀ o, d ≤ o → o < d + rest.length → getO ob o = none) ∧ ∀ (o : Nat) (x : Obj'), getO u o = some x → ∃ X : Obj', rest[o - d]? = some X ∧ x = renO f X
  | d, [], u, H => by
    simp only [newOs, Option.some.injEq] at H; subst H
    exact ⟨fun o => by simp only [getO, List.length_nil, true_iff]; omega, fun o h1 h2 => by simp at h2; omega, fun o x h => by simp [getO] at h⟩
  | d, X :: s, u, H => by
    simp only [newOs] at H
    split at H
    · rename_i y hn hy
      injection H with H; subst H
      obtain ⟨h1, h2, h3⟩ := newOs_ok ob f (d + 1) s y hy
      refine ⟨fun o => ?_, fun o g1 g2 => ?_, fun o x hx => ?_⟩
      · simp only [getO, List.length_cons]
        by_cases e : d = o
        · subst e; simp
        · rw [if_neg e, h1]; omega
      · by_cases e : d = o
        · subst e; exact hn
        · exact h2 o (by omega) (by simp at g2; omega)
      · simp only [getO] at hx
        split at hx
        · rename_i e; subst e
          injection hx with hx
          exact ⟨X, by simp, hx.symm⟩
        · rename_i e
          obtain ⟨Y, g1, g2⟩ := h3 o x hx
          have hlt := (not_congr (h1 o)).1 (by rw [hx]; simp)
          have : d + 1 ≤ o := by omega
          exact ⟨Y, by rw [show o - d = (o - (d + 1)) + 1 by omega]; simpa using g1, g2⟩
    · cases H
def backF (ids : List Nat) (d : Nat) (k : Nat) : Nat := if k < ids.length then nth ids k else d + (k - ids.length)
section
variable {C : Ctx} {γ γ1 γ2 G : Gh} {w w' : World} {act : Act} {sl : SL} {ob ob1 : OB}
theorem back_core (S : St C γ w act.tmps sl ob) (S1 : St C γ1 w act.tmps sl ob1) (hmu1 : γ1.mu = γ.mu) (hgn1 : γ1.gn = γ.gn) {bor ids : List Nat} (him1 : ∀ b, γ1.im b → γ.im b ∨ blkOf γ bor b)
    (hnd : ids.Nodup) (hids : ∀ o, o ∈ ids → ∃ x, getO ob o = some x) {d : Nat} {v : Value} {r : PV} {out : List Obj'} (R : Ret (C.enter γ w bor ids) γ2 w' v r ids.length out)
    (hGm : G.mu = γ2.mu) (hG : ∀ g b, G.q g b → γ2.im b ∧ (γ1.im b ∨ blkOf γ ids b ∨ w.heap.size ≤ b) ∧ (g = true → γ.gn b))
    (hobj : ∀ k x, out[k]? = some x → ∃ i, G.mu k = some i ∧ ORel C.fid G w'.heap x i) (hrv : RV C.fid G w'.heap v r)
    {u wn : OB} {rest : List Obj'} (hu : putOs (backF ids d) ids out = some (u, rest)) (hn : newOs ob (backF ids d) d rest = some wn) (hob1 : ∀ o, d ≤ o → o < d + rest.length → getO ob1 o = none) :
    ∃ γ', RV C.fid γ' w'.heap v (ren (backF ids d) r) ∧ St C γ' w' act.tmps sl ((wn ++ u) ++ ob1) := by
  obtain ⟨p1, p2, p3, p4⟩ := putOs_ok _ _ _ _ _ hu
  obtain ⟨n1, n2, n3⟩ := newOs_ok _ _ _ _ _ hn
  have hrl : rest.length = out.length - ids.length := by rw [p1]; simp
  let mu' : Nat → Option HI := fun o => if o ∈ ids then γ2.mu (idx ids o) else if d ≤ o ∧ o < d + rest.length then γ2.mu (ids.length + (o - d)) else γ.mu o
  let γ' : Gh := { mu := mu', im := fun b => γ1.im b ∨ (γ2.im b ∧ (blkOf γ ids b ∨ w.heap.size ≤ b)), gn := γ1.gn }
  have hnot : ∀ o, o ∈ ids → ¬ (d ≤ o ∧ o < d + rest.length) := fun o ho h => by
    obtain ⟨x, hx⟩ := hids o ho
    rw [n2 o h.1 h.2] at hx; cases hx
  have hf : ∀ k i, γ2.mu k = some i → mu' (backF ids d k) = some i := by
    intro k i hi
    have hk := R.dom k i hi
    unfold backF
    by_cases h : k < ids.length
    · rw [if_pos h]
      have hm : nth ids k ∈ ids := List.mem_of_getElem? (nth_get ids k h)
      simp only [mu', hm, if_true, idx_nth ids k hnd h]; exact hi
    · rw [if_neg h]
      have hin : ¬ (d + (k - ids.length) ∈ ids) := fun h' => hnot _ h' ⟨by omega, by omega⟩
      simp only [mu', hin, if_false]
      rw [if_pos ⟨by omega, by omega⟩, show ids.length + (d + (k - ids.length) - d) = k by omega]; exact hi
  have M : ∀ S', Mv G γ' w'.heap w'.heap S' (backF ids d) := fun S' => ⟨fun o _ i hi => ⟨i, hf o i (by rw [← hGm]; exact hi), .inl rfl⟩, fun g b h => by
    obtain ⟨h1, h2, h3⟩ := hG g b h
    exact ⟨⟨by rcases h2 with h2 | h2
               · exact .inl h2
               · exact .inr ⟨h1, h2⟩, fun e => by show γ1.gn b; rw [hgn1]; exact h3 e⟩, rfl⟩⟩
  refine ⟨γ', RAt_map r _ _ (M _) hrv, ?_⟩
  have hdom : ∀ o, getO (wn ++ u) o = none ↔ o ∉ ids ∧ ¬ (d ≤ o ∧ o < d + rest.length) := by
    intro o
    rw [getO_app]
    cases hw : getO wn o with
    | some x =>
      show some x = none ↔ _
      exact ⟨(fun h => by cases h), fun ⟨_, h⟩ => absurd (Classical.not_not.1 ((not_congr (n1 o)).1 (by rw [hw]; simp))) h⟩
    | none => simp only [p3]; exact ⟨fun h => ⟨h, (n1 o).1 hw⟩, fun h => h.1⟩
  have hmuo : ∀ o, o ∉ ids → ¬ (d ≤ o ∧ o < d + rest.length) → mu' o = γ.mu o := fun o h1 h2 => by simp only [mu', h1, if_false]; rw [if_neg h2]
  have hblk : ∀ {o i b}, o ∉ ids → γ.mu o = some i → i.blk = some b → ¬ blkOf γ ids b ∧ b < w.heap.size := by
    intro o i b ho hi hb
    refine ⟨fun ⟨p, j, hp, hj, hjb⟩ => ?_, blk_lt S hi hb⟩
    have := S.inj o p i j b hi hj hb hjb
    exact ho (this ▸ hp)
  refine (S1.change (γ' := γ') (u := wn ++ u) ?_ ?_ ?_ rfl ?_ ?_ ?_ ?_ ?_).2.2
  · intro o ho
    obtain ⟨h1, h2⟩ := (hdom o).1 ho
    rw [hmu1]; exact hmuo o h1 h2
  · intro o i hi
    rw [hmu1] at hi
    by_cases ho : o ∈ ids
    · obtain ⟨h1, h2⟩ := nth_idx ids o ho
      obtain ⟨i', h3, h4⟩ := R.kept (idx ids o) i h2 (by simp only [Ctx.enter, Gh.ren, h2, if_true, h1]; exact hi)
      exact ⟨i', by simp only [γ', mu', ho, if_true]; exact h3, h4⟩
    · have : ¬ (d ≤ o ∧ o < d + rest.length) := fun h => by
        obtain ⟨x, hx⟩ := S.dom o i hi
        rw [n2 o h.1 h.2] at hx; cases hx
      exact ⟨i, by simp only [γ']; rw [hmuo o ho this]; exact hi, .inl rfl⟩
  · intro b hb
    exact ⟨.inl hb, (R.imk b (him1 b hb)).2⟩
  · intro o i b ho hi hb
    rw [hmu1] at hi
    obtain ⟨h1, h2⟩ := (hdom o).1 ho
    obtain ⟨g1, g2⟩ := hblk h1 hi hb
    refine ⟨R.chg.block b g2 (fun h => by rcases h with h | h; exact g1 h; exact absurd g2 (Nat.not_lt.2 h)), fun h => ?_⟩
    rcases h with h | ⟨_, h | h⟩
    · exact h
    · exact absurd h g1
    · omega
  · intro o x hx
    have hk : ∃ k X, o = backF ids d k ∧ out[k]? = some X ∧ x = renO (backF ids d) X := by
      rw [getO_app] at hx
      split at hx
      · rename_i y hy
        injection hx with hx; subst hx
        obtain ⟨X, g1, g2⟩ := n3 o y hy
        have hlt := Classical.not_not.1 ((not_congr (n1 o)).1 (by rw [hy]; simp))
        refine ⟨ids.length + (o - d), X, ?_, ?_, g2⟩
        · unfold backF; rw [if_neg (by omega)]; omega
        · rw [p1, List.getElem?_drop] at g1; exact g1
      · obtain ⟨k, X, g1, g2, g3⟩ := p4 o x hx
        refine ⟨k, X, ?_, g2, g3⟩
        have hkl := (List.getElem?_eq_some_iff.1 g1).1
        unfold backF; rw [if_pos hkl]
        rw [nth_get ids k hkl] at g1; injection g1 with g1; exact g1.symm
    obtain ⟨k, X, rfl, hX, rfl⟩ := hk
    obtain ⟨i, hi, h1, h2, h3, h4⟩ := hobj k X hX
    have hi2 : γ2.mu k = some i := by rw [← hGm]; exact hi
    refine ⟨i, hf k i hi2, ?_, fun b hb => ⟨?_, fun hfr him => ?_, fun o' i' g1 g2 => ?_, ?_⟩⟩
    · unfold renO
      split
      · rename_i hp
        refine ⟨h1, h2, h3, ?_⟩
        cases hbk : i.blk with
        | none => simpa only [hbk] using h4
        | some b =>
          simp only [hbk] at h4 ⊢
          obtain ⟨g1, cs, g2, g3, g4⟩ := h4
          refine ⟨g1, cs, g2, g3, ?_⟩
          rcases g4 with ⟨g4, g5⟩ | ⟨g4, _⟩
          · exact .inl ⟨g4, PEls_mono ((M []).q _) _ _ _ _ g5⟩
          · rw [hp] at g4; cases g4
      · rename_i hp
        refine ⟨h1, h2, by rw [length_renEls]; exact h3, ?_⟩
        cases hbk : i.blk with
        | none => simpa only [hbk] using h4
        | some b =>
          simp only [hbk] at h4 ⊢
          obtain ⟨g1, cs, g2, g3, g4⟩ := h4
          refine ⟨g1, cs, g2.els (y := { X with els := renEls (backF ids d) X.els }) rfl rfl (fun e => by rw [e]; rfl), g3, ?_⟩
          rcases g4 with ⟨g4, _⟩ | ⟨g4, g5⟩
          · exact absurd g4 hp
          · exact .inr ⟨g4, REls_map _ _ _ _ (M _) g5⟩
    · rcases R.own k i b hi2 hb with ⟨o, j, _, hj, hjb⟩ | h
      · exact S.own o j b hj hjb
      · exact .inr (Nat.le_trans S.chg.size h)
    · have hfr' : X.fro = false := by unfold renO at hfr; split at hfr <;> exact hfr
      have hn2 := R.unf k X i b hX hfr' hi2 hb
      rcases him with him | ⟨him, _⟩
      · exact hn2 (R.imk b (him1 b him)).1
      · exact hn2 him
    · by_cases ho : o' ∈ ids
      · simp only [γ', mu', ho, if_true] at g1
        have := R.inj k (idx ids o') i i' b hi2 g1 hb g2
        obtain ⟨q1, q2⟩ := nth_idx ids o' ho
        unfold backF; rw [this, if_pos q2, q1]
      · by_cases hr' : d ≤ o' ∧ o' < d + rest.length
        · simp only [γ', mu', ho, if_false] at g1
          rw [if_pos hr'] at g1
          have := R.inj k _ i i' b hi2 g1 hb g2
          unfold backF; rw [this, if_neg (by omega)]; omega
        · simp only [γ'] at g1
          rw [hmuo o' ho hr'] at g1
          obtain ⟨q1, q2⟩ := hblk ho g1 g2
          rcases R.own k i b hi2 hb with h | h
          · exact absurd h q1
          · exact absurd q2 (Nat.not_lt.2 h)
    · rcases R.place k i b hi2 hb with ⟨hk, j, hj, hjb⟩ | h
      · simp only [Ctx.enter, Gh.ren, hk, if_true] at hj
        have : backF ids d k = nth ids k := by unfold backF; rw [if_pos hk]
        rw [this]
        exact S.place _ j b hj hjb
      · exact .inr (S.fresh _ (Nat.le_trans S.chg.size h))
  · intro b hb
    rcases hb with hb | ⟨hb, _⟩
    · have := S1.lt b hb; have := R.chg.size; simp only [Ctx.enter] at this; omega
    · exact R.lt b hb
  · intro b hb
    rcases hb with hb | ⟨_, h | h⟩
    · exact .inl hb
    · obtain ⟨o, i, _, hi, hib⟩ := h
      exact .inr (S.own o i b hi hib)
    · exact .inr (.inr (Nat.le_trans S.chg.size h))
  · have := R.chg
    refine ⟨this.os, this.tape, this.output, this.size, fun k hk hA => this.block k hk (fun h => hA ?_)⟩
    rcases h with ⟨o, i, _, hi, hib⟩ | h
    · exact S.own o i k hi hib
    · exact .inr (Nat.le_trans S.chg.size h)
end
end
section
open Go
theorem frz_ok (ob : OB) : ∀ (bor : List Nat) (z : OB), frz ob bor = some z → FrzOf ob z ∧ (∀ o, o ∈ bor → ∃ x, getO z o = some x) ∧ ∀ o x, getO z o = some x → o ∈ bor
  | [], z, H => by simp only [frz, Option.some.injEq] at H; subst H; exact ⟨FrzOf.nil, (fun o h => by cases h), fun o x h => by simp [getO] at h⟩
  | o :: r, z, H => by
    simp only [frz] at H
    split at H
    · rename_i x y hx hy
      split at H
      · injection H with H; subst H
        obtain ⟨h1, h2, h3⟩ := frz_ok ob r y hy
        refine ⟨fun p x' hp => ?_, fun p hp => ?_, fun p x' hp => ?_⟩
        · simp only [getO] at hp
          split at hp
          · rename_i e; subst e; injection hp with hp; exact ⟨x, hx, hp.symm⟩
          · exact h1 p x' hp
        · simp only [getO]
          by_cases e : o = p
          · rw [if_pos e]; exact ⟨_, rfl⟩
          · rw [if_neg e]; exact h2 p ((List.mem_cons.1 hp).resolve_left (fun h => e h.symm))
        · simp only [getO] at hp
          split at hp
          · rename_i e; subst e; exact List.mem_cons_self ..
          · exact List.mem_cons_of_mem _ (h3 p x' hp)
      · cases H
    · cases H
mutual
theorem ren_none (f : Nat → Nat) : ∀ v, refs v = [] → ren f v = v
  | .b _, _ | .i _ _, _ | .s _, _ | .l _ _, _ | .ln _ _, _ | .e _, _ | .q .., _ | .np, _ | .blob .., _ | .ni, _ | .nm, _ | .nf, _ | .ub, _ | .un, _ => by simp only [ren]
  | .sl .., h | .bs .., h | .p .., h | .y .., h | .m .., h => by simp [refs] at h
  | .ifc t v, h => by simp only [refs] at h; simp only [ren, ren_none f v h]
  | .pan v, h => by simp only [refs] at h; simp only [ren, ren_none f v h]
  | .agg cs, h => by simp only [refs] at h; simp only [ren, renL_none f cs h]
  | .tup cs, h => by simp only [refs] at h; simp only [ren, renL_none f cs h]
  | .fn _ a b, h => by simp only [refs, List.append_eq_nil_iff] at h; simp only [ren, renL_none f a h.1, renL_none f b h.2]
theorem renL_none (f : Nat → Nat) : ∀ l, refsL l = [] → renL f l = l
  | [], _ => rfl
  | v :: r, h => by simp only [refsL, List.append_eq_nil_iff] at h; simp only [renL, ren_none f v h.1, renL_none f r h.2]
end
theorem back0_back {ob : OB} {d : Nat} {bor : List Nat} {r : PV} {out : List Obj'} {res : Up} (H : back0 ob d bor r out = some res) : back ob d bor [] r out = some res := by
  have hf : (fun k => if k < ([] : List Nat).length then nth [] k else d + (k - ([] : List Nat).length)) = (d + ·) := by funext k; simp
  unfold back
  simp only [hf, putOs]
  unfold back0 at H
  split at H
  · simp only [List.length_nil, Nat.not_lt_zero, if_false, newOs, List.all_nil, Bool.and_true, List.append_nil, List.nil_append] at H ⊢
    exact H
  · split at H
    · cases H
    · rename_i hl
      rw [if_neg hl]
      split at H
      · cases H
      · rename_i w hw
        simp only [hw, List.append_nil]
        exact H
section
variable {P : Program} {C : Ctx} {γ γ2 : Gh} {w w' : World} {act : Act} {sl : SL} {ob : OB}
theorem enter_gn (S : St C γ w act.tmps sl ob) {bor ids : List Nat} {b : Nat} (h : (C.enter γ w bor ids).gn b) : γ.gn b := by
  rcases h with h | ⟨o, i, _, hi, hb⟩ | h
  · exact h.2
  · exact blk_gn S hi hb
  · rw [S.gn]; exact S.gnew b (.inr (Nat.le_trans S.chg.size h))
theorem back_ok (S : St C γ w act.tmps sl ob) {bor ids : List Nat} (hnd : ids.Nodup) (hids : ∀ o, o ∈ ids → ∃ x, getO ob o = some x) {d : Nat} {v : Value} {r : PV} {out : List Obj'} {res : Up} (R : Ret (C.enter γ w bor ids) γ2 w' v r ids.length out)
    (H : back ob d bor ids r out = some res) : ∃ γ', RV C.fid γ' w'.heap v res.1 ∧ St C γ' w' act.tmps sl (res.2 ++ ob) := by
  unfold back at H
  simp only at H
  rw [show (fun k => if k < ids.length then nth ids k else d + (k - ids.length)) = backF ids d from rfl] at H
  split at H
  · cases H
  · rename_i u rest hu
    split at H
    · cases H
    · split at H
      · cases H
      · rename_i wn hn
        have hgn2 : ∀ b, γ2.gn b → γ.gn b := fun b h => enter_gn S (R.gn ▸ h)
        have himn : ∀ b, γ2.im b → (γ.im b ∨ blkOf γ bor b) ∨ blkOf γ ids b ∨ w.heap.size ≤ b := fun b h => R.imn b h
        split at H
        · rename_i hc
          injection H with H; subst H
          by_cases hb : bor = []
          · subst hb
            have hG : ∀ g b, γ2.q g b → γ2.im b ∧ (γ.im b ∨ blkOf γ ids b ∨ w.heap.size ≤ b) ∧ (g = true → γ.gn b) := fun g b h =>
              ⟨h.1, (himn b h.1).imp (fun h => h.resolve_right fun ⟨o, _, ho, _⟩ => by cases ho) id, fun e => hgn2 b (h.2 e)⟩
            exact back_core S S rfl rfl (fun b h => .inl h) hnd hids R rfl hG R.obj R.rv hu hn (newOs_ok _ _ _ _ _ hn).2.1
          · have hc : noExt r = true ∧ out.all noExtO = true := by
              have : bor.isEmpty = false := by cases bor with
                | nil => exact absurd rfl hb
                | cons x y => rfl
              simpa [this] using hc
            have hG : ∀ g b, γ2.good.q g b → γ2.im b ∧ (γ.im b ∨ blkOf γ ids b ∨ w.heap.size ≤ b) ∧ (g = true → γ.gn b) := fun g b h => by
              obtain ⟨⟨h1, h2⟩, _⟩ := h
              refine ⟨h1, ?_, fun _ => hgn2 b h2⟩
              rw [R.gn] at h2
              rcases h2 with h2 | h2 | h2
              · exact .inl h2.1
              · exact .inr (.inl h2)
              · exact .inr (.inr h2)
            refine back_core S S rfl rfl (fun b h => .inl h) hnd hids R (G := γ2.good) rfl hG (fun k x hx => ?_) (RAt_good r _ _ hc.1 R.rv) hu hn (newOs_ok _ _ _ _ _ hn).2.1
            obtain ⟨i, hi, h⟩ := R.obj k x hx
            exact ⟨i, hi, ORel_good (List.all_eq_true.1 hc.2 x (List.mem_of_getElem? hx)) h⟩
        · cases hz : frz ob bor with
          | none => simp [hz] at H
          | some z =>
            simp only [hz, Option.map_some, Option.some.injEq] at H; subst H
            obtain ⟨f1, f2, f3⟩ := frz_ok ob bor z hz
            obtain ⟨M, S1⟩ := S.frz f1
            have hbor : ∀ b, blkOf γ bor b → (γ.frz z).im b := fun b ⟨o, i, ho, hi, hb⟩ => by
              obtain ⟨x, hx⟩ := f2 o ho
              exact .inr ⟨o, x, i, hx, hi, hb⟩
            have hG : ∀ g b, γ2.q g b → γ2.im b ∧ ((γ.frz z).im b ∨ blkOf γ ids b ∨ w.heap.size ≤ b) ∧ (g = true → γ.gn b) := fun g b h =>
              ⟨h.1, (himn b h.1).imp (fun h => h.elim .inl (hbor b)) id, fun e => hgn2 b (h.2 e)⟩
            obtain ⟨n1, n2, n3⟩ := newOs_ok _ _ _ _ _ hn
            have hzb : ∀ b, (γ.frz z).im b → γ.im b ∨ blkOf γ bor b := fun b h => h.imp id fun ⟨o, x, i, hx, hi, hb⟩ => ⟨o, i, f3 o x hx, hi, hb⟩
            have := back_core S S1 rfl rfl hzb hnd hids R rfl hG R.obj R.rv hu hn (fun o h1 h2 => by
              rw [getO_app]
              cases hzo : getO z o with
              | none => exact n2 o h1 h2
              | some x =>
                obtain ⟨y, hy, _⟩ := f1 o x hzo
                rw [n2 o h1 h2] at hy; cases hy)
            simpa only [List.append_assoc] using this
theorem putOs_len (f : Nat → Nat) : ∀ (ids : List Nat) (l : List Obj') (y : OB × List Obj'), putOs f ids l = some y → ids.length ≤ l.length
  | [], _, _, _ => Nat.zero_le _
  | o :: r, x :: s, y, h => by
    simp only [putOs] at h
    cases hp : putOs f r s with
    | none => simp [hp] at h
    | some z => have := putOs_len f r s z hp; simp; exact this
  | _ :: _, [], _, h => by simp [putOs] at h
theorem back_len {ob : OB} {d : Nat} {bor ids : List Nat} {r : PV} {out : List Obj'} {res : Up} (h : back ob d bor ids r out = some res) : ids.length ≤ out.length := by
  unfold back at h
  simp only at h
  split at h
  · cases h
  · rename_i u rest hp
    exact putOs_len _ _ _ _ hp
theorem ca_ok {Φ : Sem'} (hΦ : Sound P C.fid C.glob Φ) (S : St C γ w act.tmps sl ob) {vals : Array Value} {args : List PV} (hR : RL C.fid γ w.heap vals 0 args) (hs : vals.size = args.length) {f0 : FuncId} {d : Nat} {raw : Bool} {res : Up}
    (H : ca Φ ob d raw (C.fid f0) args = some res) : Calls P f0 vals w fun e w' => (∃ v γ', e = .returned v ∧ RV C.fid γ' w'.heap v res.1 ∧ St C γ' w' act.tmps sl (res.2 ++ ob)) ∧ Bodied P f0 := by
  unfold ca at H
  split at H
  · cases H
  · rename_i as bor hh
    have hand' : ∀ ids, RL C.fid (γ.lend w bor ids) w.heap vals 0 as ∧ as.length = args.length := by
      intro ids
      unfold hand at hh
      split at hh
      · simp only [Option.some.injEq, Prod.mk.injEq] at hh; obtain ⟨rfl, rfl⟩ := hh
        exact ⟨RL_mono ((lend_lent γ w [] ids).mv _ _) hR, rfl⟩
      · exact reifies_ok S hh (lend_lent γ w bor ids) hR
    have go : ∀ ids os r out, reach ob 20 (refsL as) [] = some ids → ids.any (bor.contains ·) = false → getOs ob ids = some os → Φ (C.fid f0) (renL (idx ids) as) (os.map (renO (idx ids))) = some (r, out) → back ob d bor ids r out = some res →
        Calls P f0 vals w fun e w' => (∃ v γ', e = .returned v ∧ RV C.fid γ' w'.heap v res.1 ∧ St C γ' w' act.tmps sl (res.2 ++ ob)) ∧ Bodied P f0 := by
      intro ids os r out hre hdj hos hphi hback
      obtain ⟨h1, h2⟩ := hand' ids
      have henter := enter_ok S h1 (by rw [hs, h2]) (fun _ h => h) hre hdj hos
      obtain ⟨hnd, _, _, hcl⟩ := reach_ok ob 20 _ _ _ hre (by simp) (fun o h => by cases h)
      obtain ⟨hol, _⟩ := getOs_ok ob ids os hos
      have hlen := reach_len ob 20 _ _ _ hre
      simp only [List.length_nil] at hlen
      have hlo : ids.length ≤ out.length := back_len hback
      have hc := hΦ f0 _ _ r out hphi (by rw [List.length_map, hol]; exact hlo) (C.enter γ w bor ids) vals rfl rfl (by rw [length_renL, hs, h2]) (by rw [List.length_map, hol]; omega) (fun _ => Iff.rfl) henter
      intro cs
      obtain ⟨e, w', fr, ⟨v, γ2, he, hret, hfn⟩, rest⟩ := hc cs
      rw [List.length_map, hol] at hret
      obtain ⟨γ', g1, g2⟩ := back_ok S hnd (fun o ho => by obtain ⟨x, hx, _⟩ := hcl o ho; exact ⟨x, hx⟩) hret hback
      exact ⟨e, w', fr, ⟨⟨v, γ', he, g1, g2⟩, hfn⟩, rest⟩
    split at H
    · cases H
    · rename_i hre
      split at H
      · cases H
      · rename_i r out hphi
        have hnil : refsL as = [] := by
          obtain ⟨_, _, h3, _⟩ := reach_ok ob 20 _ _ _ hre (by simp) (fun o h => by cases h)
          cases hl : refsL as with
          | nil => rfl
          | cons o l => exact absurd (h3 o (by rw [hl]; simp)) (by simp)
        exact go [] [] r out hre rfl rfl (by rw [renL_none _ _ hnil]; exact hphi) (back0_back H)
    · rename_i ids hne hre
      split at H
      · cases H
      · rename_i hdj
        split at H
        · cases H
        · rename_i os hos
          split at H
          · cases H
          · rename_i r out hphi
            exact go ids os r out hre (by simpa using hdj) hos hphi H
end
end
section
open Go
section
variable (P : Program) (E : Env)
noncomputable def opA (Φ : Sem') (sl : SL) (ob : OB) (d : Nat) (o : Op) : Option Up :=
  match opV P E sl o with
  | some v => some (v, [])
  | none => match opP P E sl ob o with
    | some x => x.map fun v => (v, [])
    | none => match opO P E Φ sl ob d o with
      | some x => x
      | none => none
def wantA (ops : Array Oper) (o : Oper) (sl : SL) : Option Bool :=
  match o.guard with
  | none => some true
  | some (j, w) => match (ops[j]?).bind (·.dst) with
    | none => none
    | some t => match getS sl t with
      | .b c => some (c == w)
      | .tup [] => some false
      | _ => none
noncomputable def stepA (Φ : Sem') (ops : Array Oper) (o : Oper) (x : SL × OB) : Option (SL × OB) :=
  match wantA ops o x.1 with
  | none => none
  | some true => (opA P E Φ x.1 x.2 (nid o.dst) o.op).map fun r => (putS o.dst r.1 x.1, r.2 ++ x.2)
  | some false => some (putS o.dst (.tup []) x.1, x.2)
variable {P E}
theorem gd_some {g : PV} {w : Bool} {x : Option PV} {v : PV} (H : gd g w x = some v) : (g = .b w ∧ x = some v) ∨ (((∃ c, g = .b c ∧ (c == w) = false) ∨ g = .tup []) ∧ v = .tup []) := by
  unfold gd at H
  split at H
  · rename_i c
    split at H
    · rename_i e; subst e; exact .inl ⟨rfl, H⟩
    · rename_i e; injection H with H; exact .inr ⟨.inl ⟨c, rfl, by simpa using e⟩, H.symm⟩
  · injection H with H; exact .inr ⟨.inr rfl, H.symm⟩
  · cases H
theorem gdO_some {g : PV} {w : Bool} {x : Option Up} {v : Up} (H : gdO g w x = some v) : (g = .b w ∧ x = some v) ∨ (((∃ c, g = .b c ∧ (c == w) = false) ∨ g = .tup []) ∧ v = (.tup [], [])) := by
  unfold gdO at H
  split at H
  · rename_i c
    split at H
    · rename_i e; subst e; exact .inl ⟨rfl, H⟩
    · rename_i e; injection H with H; exact .inr ⟨.inl ⟨c, rfl, by simpa using e⟩, H.symm⟩
  · injection H with H; exact .inr ⟨.inr rfl, H.symm⟩
  · cases H
theorem bnd_some {α β : Type} {x : Option α} {f : α → Option β} {r : β} (H : bnd x f = some r) : ∃ a, x = some a ∧ f a = some r := by
  cases x with
  | none => simp [bnd] at H
  | some a => exact ⟨a, rfl, H⟩
theorem bndO_some {β : Type} {x : Option Up} {ob : OB} {f : PV → OB → Option β} {r : β} (H : bndO x ob f = some r) : ∃ a, x = some a ∧ f a.1 (a.2 ++ ob) = some r := by
  cases x with
  | none => simp [bndO] at H
  | some a => exact ⟨a, rfl, H⟩
theorem denI_step {Φ : Sem'} {ops : Array Oper} {o : Oper} {K : SL → OB → Option R} {sl : SL} {ob : OB} {r : R} (H : denI P E Φ ops o K sl ob = some r) :
    ∃ x, stepA P E Φ ops o (sl, ob) = some x ∧ K x.1 x.2 = some r := by
  unfold denI at H
  split at H
  · rename_i hg
    have hw : wantA ops o sl = some true := by simp [wantA, hg]
    split at H
    · rename_i v hv
      exact ⟨(putS o.dst v sl, ob), by simp [stepA, hw, opA, hv], H⟩
    · rename_i hv
      split at H
      · rename_i x hx
        obtain ⟨v, rfl, H⟩ := bnd_some H
        exact ⟨(putS o.dst v sl, ob), by simp [stepA, hw, opA, hv, hx], H⟩
      · rename_i hx
        split at H
        · rename_i x hy
          obtain ⟨u, rfl, H⟩ := bndO_some H
          exact ⟨(putS o.dst u.1 sl, u.2 ++ ob), by simp [stepA, hw, opA, hv, hx, hy], H⟩
        · cases H
  · rename_i j w hg
    split at H
    · cases H
    · rename_i t ht
      have hwant : getS sl t = .b w → wantA ops o sl = some true := fun h => by simp [wantA, hg, ht, h]
      have hskip : ((∃ c, getS sl t = .b c ∧ (c == w) = false) ∨ getS sl t = .tup []) → wantA ops o sl = some false := by
        rintro (⟨c, h, e⟩ | h)
        · simp only [wantA, hg, ht, h, e]
        · simp only [wantA, hg, ht, h]
      split at H
      · rename_i v hv
        obtain ⟨v', hgd, H2⟩ := bnd_some H
        rcases gd_some hgd with ⟨h1, h2⟩ | ⟨h1, h2⟩
        · injection h2 with h2; subst h2
          exact ⟨(putS o.dst v sl, ob), by simp [stepA, hwant h1, opA, hv], H2⟩
        · subst h2
          exact ⟨(putS o.dst (.tup []) sl, ob), by simp [stepA, hskip h1], H2⟩
      · rename_i hv
        split at H
        · rename_i x hx
          obtain ⟨v', hgd, H2⟩ := bnd_some H
          rcases gd_some hgd with ⟨h1, h2⟩ | ⟨h1, h2⟩
          · subst h2
            exact ⟨(putS o.dst v' sl, ob), by simp [stepA, hwant h1, opA, hv, hx], H2⟩
          · subst h2
            exact ⟨(putS o.dst (.tup []) sl, ob), by simp [stepA, hskip h1], H2⟩
        · rename_i hx
          split at H
          · rename_i x hy
            obtain ⟨u, hgd, H2⟩ := bndO_some H
            rcases gdO_some hgd with ⟨h1, h2⟩ | ⟨h1, h2⟩
            · subst h2
              exact ⟨(putS o.dst u.1 sl, u.2 ++ ob), by simp [stepA, hwant h1, opA, hv, hx, hy], H2⟩
            · subst h2
              exact ⟨(putS o.dst (.tup []) sl, ob), by simp [stepA, hskip h1], by simpa using H2⟩
          · cases H
noncomputable def runA (P : Program) (E : Env) (Φ : Sem') (ops : Array Oper) : List Oper → SL × OB → Option (SL × OB)
  | [], x => some x
  | o :: r, x => match stepA P E Φ ops o x with
    | some y => runA P E Φ ops r y
    | none => none
theorem disK_some {E : Env} {ops : Array Oper} {o : Op} {tr : List (Nat × List PV)} {x : List PV} {k : Option R} {r : R} : ∀ {l : List Nat}, disK E ops o tr x l k = some r → k = some r ∧ ∀ i ∈ l, disP E ops o i (look tr i) x = some ()
  | [], H => ⟨H, fun i h => by cases h⟩
  | i :: l, H => by
    simp only [disK] at H
    obtain ⟨u, h1, h2⟩ := bnd_some H
    obtain ⟨g1, g2⟩ := disK_some h2
    exact ⟨g1, fun j hj => by
      rcases List.mem_cons.1 hj with rfl | hj
      · exact h1
      · exact g2 j hj⟩
theorem denOps_run {Φ : Sem'} {ops : Array Oper} {pr : List (Nat × Nat)} {K : SL → OB → Option R} {r : R} : ∀ {l : List Oper} {j : Nat} {tr : List (Nat × List PV)} {sl : SL} {ob : OB}, denOps P E Φ ops pr K j tr l sl ob = some r →
    ∃ x, runA P E Φ ops l (sl, ob) = some x ∧ K x.1 x.2 = some r
  | [], j, tr, sl, ob, H => ⟨(sl, ob), rfl, H⟩
  | o :: l, j, tr, sl, ob, H => by
    simp only [denOps] at H
    obtain ⟨H, _⟩ := disK_some H
    obtain ⟨x, h1, h2⟩ := denI_step H
    obtain ⟨y, h3, h4⟩ := denOps_run h2
    exact ⟨y, by simp only [runA, h1]; exact h3, h4⟩
end
end
end Go.Proofs.Ytnkapponcbgbhaa
