/-
  Calls: the callee's state; what is known when it is over.
-/
import Derived.Test.YtcimkkcajkmfoaaDoorCallA
set_option linter.all false
namespace Go.Proofs.YtcimkkcajkmfoaaDoor
open Go

/-- What is known when a call is over: m objects were handed over. -/
structure Ret (C : Ctx) (γ : Gh) (w : World) (v : Value) (r : PV) (m : Nat) (out : List Obj') : Prop where
  rv : RV C.fid γ w.heap v r
  len : m ≤ out.length
  obj : ∀ k x, out[k]? = some x → ∃ i, γ.mu k = some i ∧ ORel C.fid γ w.heap x i
  dom : ∀ k i, γ.mu k = some i → k < out.length
  inj : ∀ o o' i i' b, γ.mu o = some i → γ.mu o' = some i' → i.blk = some b → i'.blk = some b → o = o'
  unf : ∀ k x i b, out[k]? = some x → x.fro = false → γ.mu k = some i → i.blk = some b → ¬ γ.im b
  own : ∀ o i b, γ.mu o = some i → i.blk = some b → C.A b ∨ C.w0.heap.size ≤ b
  lt : ∀ b, γ.im b → b < w.heap.size
  chg : Chg (fun b => C.A b ∨ C.w0.heap.size ≤ b) C.w0 w
  gn : γ.gn = C.gn
  kept : ∀ k i, k < m → C.g0.mu k = some i → ∃ i', γ.mu k = some i' ∧ (i' = i ∨ i.ver < i'.ver)
  imk : ∀ b, C.g0.im b → γ.im b ∧ w.heap[b]? = C.w0.heap[b]?
  imn : ∀ b, γ.im b → C.g0.im b ∨ (C.A b ∨ C.w0.heap.size ≤ b)
  place : ∀ k i b, γ.mu k = some i → i.blk = some b → (k < m ∧ ∃ j, C.g0.mu k = some j ∧ j.blk = some b) ∨ C.N b

/-- A function with code. -/
def Bodied (P : Program) (f : FuncId) : Prop := ∃ fn, P.funcs[f]? = some fn ∧ fn.body.isNone = false ∧ (fn.name == "runtime.NumGoroutine") = false
/-- What functions answer holds of the program's. -/
def Sound (P : Program) (fid : Nat → Nat) (glob : Nat → Option (List PV)) (Φ : Sem') : Prop :=
  ∀ (f0 : FuncId) (as : List PV) (os : List Obj') (r : PV) (out : List Obj'), Φ (fid f0) as os = some (r, out) → os.length ≤ out.length →
    ∀ (C : Ctx) (args : Array Value), C.fid = fid → C.glob = glob → args.size = as.length → os.length ≤ 64 → (∀ k, C.kp k ↔ k < 64) → St C C.g0 C.w0 args (zipN 0 as) (zipN 0 os) →
      Calls P f0 args C.w0 fun e w' => ∃ v γ', e = .returned v ∧ Ret C γ' w' v r os.length out ∧ Bodied P f0

theorem getS_zip : ∀ (l : List PV) (k t : Nat), getS (zipN k l) t = if k ≤ t then l.getD (t - k) .un else .un
  | [], k, t => by simp [zipN, getS]
  | v :: r, k, t => by
    simp only [zipN, getS]
    by_cases h : k = t
    · subst h; simp
    · rw [if_neg h, getS_zip r (k + 1) t]
      by_cases h2 : k ≤ t
      · rw [if_pos (by omega), if_pos h2, show t - k = (t - (k + 1)) + 1 by omega]; simp
      · rw [if_neg (by omega), if_neg h2]
theorem getO_zip : ∀ (l : List Obj') (k t : Nat), getO (zipN k l) t = if k ≤ t then l[t - k]? else none
  | [], k, t => by simp [zipN, getO]
  | v :: r, k, t => by
    simp only [zipN, getO]
    by_cases h : k = t
    · subst h; simp
    · rw [if_neg h, getO_zip r (k + 1) t]
      by_cases h2 : k ≤ t
      · rw [if_pos (by omega), if_pos h2, show t - k = (t - (k + 1)) + 1 by omega]; simp
      · rw [if_neg (by omega), if_neg h2]

/-! ### What is led to -/
theorem reach_ok (ob : OB) : ∀ (k : Nat) (todo acc ids : List Nat), reach ob k todo acc = some ids → acc.Nodup → (∀ o ∈ acc, ∃ x, getO ob o = some x ∧ ∀ o' ∈ refsO x, o' ∈ acc ∨ o' ∈ todo) →
    ids.Nodup ∧ (∀ o ∈ acc, o ∈ ids) ∧ (∀ o ∈ todo, o ∈ ids) ∧ ∀ o ∈ ids, ∃ x, getO ob o = some x ∧ ∀ o' ∈ refsO x, o' ∈ ids
  | k, [], acc, ids, H, hn, hc => by
    have e : acc = ids := by cases k <;> simpa only [reach, Option.some.injEq] using H
    subst e
    refine ⟨hn, fun o h => h, (fun o h => by cases h), fun o ho => ?_⟩
    obtain ⟨x, hx, h⟩ := hc o ho
    exact ⟨x, hx, fun o' ho' => (h o' ho').resolve_right (by simp)⟩
  | 0, _ :: _, _, _, H, _, _ => by simp [reach] at H
  | k + 1, o :: todo, acc, ids, H, hn, hc => by
    simp only [reach] at H
    split at H
    · rename_i hin
      have hin : o ∈ acc := by simpa using hin
      obtain ⟨h1, h2, h3, h4⟩ := reach_ok ob k todo acc ids H hn (fun p hp => by
        obtain ⟨x, hx, h⟩ := hc p hp
        exact ⟨x, hx, fun o' ho' => by
          rcases h o' ho' with h | h
          · exact .inl h
          · rcases List.mem_cons.1 h with rfl | h
            · exact .inl hin
            · exact .inr h⟩)
      exact ⟨h1, h2, fun p hp => by
        rcases List.mem_cons.1 hp with rfl | hp
        · exact h2 _ hin
        · exact h3 p hp, h4⟩
    · rename_i hin
      have hin : o ∉ acc := by simpa using hin
      split at H
      · rename_i x hx
        obtain ⟨h1, h2, h3, h4⟩ := reach_ok ob k (todo ++ refsO x) (acc ++ [o]) ids H (by
          rw [List.nodup_append]; exact ⟨hn, by simp, fun a ha b hb => by simp at hb; subst hb; intro e; subst e; exact hin ha⟩) (fun p hp => by
          rcases List.mem_append.1 hp with hp | hp
          · obtain ⟨y, hy, h⟩ := hc p hp
            refine ⟨y, hy, fun o' ho' => ?_⟩
            rcases h o' ho' with h | h
            · exact .inl (List.mem_append_left _ h)
            · rcases List.mem_cons.1 h with rfl | h
              · exact .inl (by simp)
              · exact .inr (List.mem_append_left _ h)
          · simp at hp; subst hp
            exact ⟨x, hx, fun o' ho' => .inr (List.mem_append_right _ ho')⟩)
        exact ⟨h1, fun p hp => h2 p (List.mem_append_left _ hp), fun p hp => by
          rcases List.mem_cons.1 hp with rfl | hp
          · exact h2 _ (by simp)
          · exact h3 p (List.mem_append_left _ hp), h4⟩
      · cases H
theorem reach_len (ob : OB) : ∀ (k : Nat) (todo acc ids : List Nat), reach ob k todo acc = some ids → ids.length ≤ acc.length + k
  | k, [], acc, ids, H => by
    have e : acc = ids := by cases k <;> simpa only [reach, Option.some.injEq] using H
    subst e; omega
  | 0, _ :: _, _, _, H => by simp [reach] at H
  | k + 1, o :: todo, acc, ids, H => by
    simp only [reach] at H
    split at H
    · have := reach_len ob k todo acc ids H; omega
    · split at H
      · have := reach_len ob k _ _ ids H; simp at this; omega
      · cases H
theorem length_renEls (f : Nat → Nat) : ∀ l, (renEls f l).length = l.length
  | [] => rfl
  | x :: r => by simp only [renEls, List.length_cons, length_renEls f r]
theorem getOs_ok (ob : OB) : ∀ (ids : List Nat) (os : List Obj'), getOs ob ids = some os → os.length = ids.length ∧ ∀ (k o : Nat), ids[k]? = some o → ∃ x, os[k]? = some x ∧ getO ob o = some x
  | [], os, H => by simp only [getOs, Option.some.injEq] at H; subst H; exact ⟨rfl, fun k o h => by simp at h⟩
  | o :: r, os, H => by
    simp only [getOs] at H
    split at H
    · rename_i x y hx hy
      injection H with H; subst H
      obtain ⟨h1, h2⟩ := getOs_ok ob r y hy
      refine ⟨by simp [h1], fun k p hk => ?_⟩
      rcases k with _ | k
      · simp at hk; subst hk; exact ⟨x, rfl, hx⟩
      · simpa using h2 k p (by simpa using hk)
    · cases H
theorem nth_idx : ∀ (l : List Nat) (o : Nat), o ∈ l → nth l (idx l o) = o ∧ idx l o < l.length
  | [], _, h => by cases h
  | x :: r, o, h => by
    simp only [idx]
    by_cases e : x = o
    · rw [if_pos e]; exact ⟨e, by simp⟩
    · rw [if_neg e]
      have h := (List.mem_cons.1 h).resolve_left (fun h => e h.symm)
      obtain ⟨h1, h2⟩ := nth_idx r o h
      exact ⟨h1, by simp; omega⟩
theorem nth_get : ∀ (l : List Nat) (k : Nat), k < l.length → l[k]? = some (nth l k)
  | [], _, h => by simp at h
  | x :: r, 0, _ => rfl
  | x :: r, k + 1, h => by simp only [List.getElem?_cons_succ, nth]; exact nth_get r k (by simpa using h)
theorem idx_nth : ∀ (l : List Nat) (k : Nat), l.Nodup → k < l.length → idx l (nth l k) = k
  | [], _, _, h => by simp at h
  | x :: r, 0, _, _ => by simp [nth, idx]
  | x :: r, k + 1, hn, h => by
    have hk : k < r.length := by simpa using h
    have hm : nth r k ∈ r := List.mem_of_getElem? (nth_get r k hk)
    have hne : ¬ (x = nth r k) := fun e => (List.nodup_cons.1 hn).1 (e ▸ hm)
    show (if x = nth r k then 0 else idx r (nth r k) + 1) = k + 1
    rw [if_neg hne, idx_nth r k (List.nodup_cons.1 hn).2 hk]

/-! ### The callee's state -/
section
variable {C : Ctx} {γ : Gh} {w : World} {act : Act} {sl : SL} {ob : OB}
/-- Blocks of objects. -/
def blkOf (γ : Gh) (L : List Nat) (b : Nat) : Prop := ∃ o i, o ∈ L ∧ γ.mu o = some i ∧ i.blk = some b
/-- What is not written meanwhile, numbers as they are. -/
def Gh.lend (γ : Gh) (w : World) (bor ids : List Nat) : Gh :=
  { mu := γ.mu, im := fun b => γ.im b ∨ blkOf γ bor b, gn := fun b => (γ.im b ∧ γ.gn b) ∨ blkOf γ ids b ∨ w.heap.size ≤ b }
def Gh.ren (γ : Gh) (ids : List Nat) : Gh := { γ with mu := fun k => if k < ids.length then γ.mu (nth ids k) else none }
def Ctx.enter (C : Ctx) (γ : Gh) (w : World) (bor ids : List Nat) : Ctx :=
  { fid := C.fid, glob := C.glob, w0 := w, A := blkOf γ ids, gn := (γ.lend w bor ids).gn, g0 := (γ.lend w bor ids).ren ids, kp := fun k => k < 64, N := fun b => w.heap.size ≤ b }
theorem lend_lent (γ : Gh) (w : World) (bor ids : List Nat) : Lent γ (γ.lend w bor ids) bor :=
  ⟨fun _ _ h => h, fun _ _ h => ⟨.inl h.1, fun e => .inl ⟨h.1, h.2 e⟩⟩, fun o i _ ho hi hb => .inr ⟨o, i, ho, hi, hb⟩⟩
theorem getD_RL {fid : Nat → Nat} {γ : Gh} {h : Array Obj} {args : Array Value} {as : List PV} (H : RL fid γ h args 0 as) (hs : args.size = as.length) (t : Nat) : RV fid γ h (args.getD t undef) (getS (zipN 0 as) t) := by
  rw [getS_zip, if_pos (Nat.zero_le _), Nat.sub_zero]
  by_cases ht : t < as.length
  · have e : as[t]? = some as[t] := List.getElem?_eq_getElem ht
    obtain ⟨x, hx, hv⟩ := RL_get t _ H e
    rw [Nat.zero_add] at hx
    have h1 : args.getD t undef = x := by simp [hx]
    have h2 : as.getD t .un = as[t] := by simp [ht]
    rw [h1, h2]; exact hv
  · have h2 : as.getD t .un = .un := by simp [List.getElem?_eq_none (Nat.le_of_not_lt ht)]
    rw [h2]; exact RV_un
theorem enter_ok (S : St C γ w act.tmps sl ob) {args : Array Value} {as : List PV} {bor ids : List Nat} {os : List Obj'} (hR : RL C.fid (γ.lend w bor ids) w.heap args 0 as) (hs : args.size = as.length)
    {todo : List Nat} (hsub : ∀ o ∈ refsL as, o ∈ todo) (hre : reach ob 20 todo [] = some ids) (hdj : ids.any (bor.contains ·) = false) (hos : getOs ob ids = some os) :
    St (C.enter γ w bor ids) (C.enter γ w bor ids).g0 (C.enter γ w bor ids).w0 args (zipN 0 (renL (idx ids) as)) (zipN 0 (os.map (renO (idx ids)))) := by
  obtain ⟨hnd, _, hin, hcl⟩ := reach_ok ob 20 _ _ _ hre (by simp) (fun o h => by cases h)
  obtain ⟨hol, hog⟩ := getOs_ok ob ids os hos
  have hdj' : ∀ o, o ∈ ids → o ∉ bor := by
    intro o ho hb
    have := List.any_eq_false.1 hdj o ho
    simp at this; exact this hb
  have hq : ∀ g b, γ.q g b → (γ.lend w bor ids).q g b := (lend_lent γ w bor ids).q
  have mv : ∀ {S'}, (∀ o ∈ S', o ∈ ids) → Mv (γ.lend w bor ids) ((γ.lend w bor ids).ren ids) w.heap w.heap S' (idx ids) := by
    intro S' hS
    refine ⟨fun o ho i hi => ⟨i, ?_, .inl rfl⟩, fun g b h => ⟨h, rfl⟩⟩
    obtain ⟨h1, h2⟩ := nth_idx ids o (hS o ho)
    simp only [Gh.ren, h2, if_true, h1]; exact hi
  have hmu : ∀ k i, ((γ.lend w bor ids).ren ids).mu k = some i → k < ids.length ∧ γ.mu (nth ids k) = some i := by
    intro k i h
    simp only [Gh.ren] at h
    split at h
    · rename_i hk; exact ⟨hk, h⟩
    · cases h
  have hobj : ∀ k x, getO (zipN 0 (os.map (renO (idx ids)))) k = some x → ∃ X, k < ids.length ∧ getO ob (nth ids k) = some X ∧ x = renO (idx ids) X := by
    intro k x h
    rw [getO_zip, if_pos (Nat.zero_le _), Nat.sub_zero, List.getElem?_map] at h
    obtain ⟨X, hX, rfl⟩ := Option.map_eq_some_iff.1 h
    have hk : k < ids.length := by rw [← hol]; exact (List.getElem?_eq_some_iff.1 hX).1
    obtain ⟨Y, hY, hg⟩ := hog k _ (nth_get ids k hk)
    rw [hX] at hY; injection hY with hY; subst hY
    exact ⟨X, hk, hg, rfl⟩
  constructor
  · intro t
    have h1 : RL C.fid ((γ.lend w bor ids).ren ids) w.heap args 0 (renL (idx ids) as) := RL_map as args 0 (mv fun o ho => hin o (hsub o ho)) hR
    exact getD_RL h1 (by rw [length_renL]; exact hs) t
  · intro k x hx
    obtain ⟨X, hk, hX, rfl⟩ := hobj k x hx
    obtain ⟨i, hi, h1, h2, h3, h4⟩ := S.obj _ X hX
    refine ⟨i, by simp only [Ctx.enter, Gh.ren, hk, if_true]; exact hi, ?_⟩
    obtain ⟨Y, hY, hcl'⟩ := hcl _ (List.mem_of_getElem? (nth_get ids k hk))
    rw [hX] at hY; injection hY with hY; subst hY
    have hlend : ORel C.fid (γ.lend w bor ids) w.heap X i := ORel_mono ((lend_lent γ w bor ids).mv w.heap _) (fun _ _ => rfl) ⟨h1, h2, h3, h4⟩
    show ORel C.fid ((γ.lend w bor ids).ren ids) w.heap (renO (idx ids) X) i
    unfold renO
    split
    · rename_i hp
      obtain ⟨h1, h2, h3, h4⟩ := hlend
      refine ⟨h1, h2, h3, ?_⟩
      cases hbk : i.blk with
      | none => simpa only [hbk] using h4
      | some b =>
        simp only [hbk] at h4 ⊢
        obtain ⟨g1, cs, g2, g3, g4⟩ := h4
        refine ⟨g1, cs, g2, g3, ?_⟩
        rcases g4 with ⟨g4, g5⟩ | ⟨g4, _⟩
        · exact .inl ⟨g4, g5⟩
        · rw [hp] at g4; cases g4
    · rename_i hp
      obtain ⟨h1, h2, h3, h4⟩ := hlend
      refine ⟨h1, h2, by rw [length_renEls]; exact h3, ?_⟩
      cases hbk : i.blk with
      | none => simpa only [hbk] using h4
      | some b =>
        simp only [hbk] at h4 ⊢
        obtain ⟨g1, cs, g2, g3, g4⟩ := h4
        refine ⟨g1, cs, g2, g3, ?_⟩
        rcases g4 with ⟨g4, _⟩ | ⟨g4, g5⟩
        · exact absurd g4 hp
        · refine .inr ⟨g4, REls_map _ _ _ _ (mv ?_) g5⟩
          intro o ho
          refine hcl' o ?_
          unfold refsO; rw [if_neg hp]; exact ho
  · intro k i hi
    obtain ⟨hk, _⟩ := hmu k i hi
    obtain ⟨x, hx, _⟩ := hog k _ (nth_get ids k hk)
    exact ⟨renO (idx ids) x, by rw [getO_zip, if_pos (Nat.zero_le _), Nat.sub_zero, List.getElem?_map, hx]; rfl⟩
  · intro k k' i i' b h1 h2 h3 h4
    obtain ⟨hk, g1⟩ := hmu k i h1
    obtain ⟨hk', g2⟩ := hmu k' i' h2
    have := S.inj _ _ i i' b g1 g2 h3 h4
    have := congrArg (idx ids) this
    rwa [idx_nth ids k hnd hk, idx_nth ids k' hnd hk'] at this
  · intro k x i b hx hf hi hb him
    obtain ⟨X, hk, hX, rfl⟩ := hobj k x hx
    obtain ⟨_, g1⟩ := hmu k i hi
    have hf' : X.fro = false := by unfold renO at hf; split at hf <;> exact hf
    rcases him with him | ⟨o, j, ho, hj, hjb⟩
    · exact S.unf _ X i b hX hf' g1 hb him
    · have := S.inj _ _ i j b g1 hj hb hjb
      exact hdj' _ (List.mem_of_getElem? (nth_get ids k hk)) (this ▸ ho)
  · intro k i b hi hb
    obtain ⟨hk, g1⟩ := hmu k i hi
    exact .inl ⟨_, i, List.mem_of_getElem? (nth_get ids k hk), g1, hb⟩
  · intro b hb
    rcases hb with hb | ⟨o, j, _, hj, hjb⟩
    · exact S.lt b hb
    · exact blk_lt S hj hjb
  · intro g xs hg
    obtain ⟨h1, cs, h2, h3⟩ := S.glob g xs hg
    exact ⟨hq true g h1, cs, h2, PCells_mono (fun b hb => ⟨hq true b hb, rfl⟩) _ _ _ h3⟩
  · exact Chg.refl _ _
  · rfl
  · intro b hb
    exact .inr hb
  · intro k i _ hi
    exact ⟨i, hi, .inl rfl⟩
  · intro b hb
    exact ⟨hb, rfl⟩
  · intro b hb
    exact .inl hb
  · intro k i b hi hb
    obtain ⟨hk', _⟩ := hmu k i hi
    have := reach_len ob 20 _ _ _ hre
    simp at this
    exact .inl ⟨by omega, i, hi, hb⟩
  · exact fun b hb => hb
end
end Go.Proofs.YtcimkkcajkmfoaaDoor
