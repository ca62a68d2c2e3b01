/-
  What comes back of a call.
-/
import Derived.Test.YtcimkkcajkmfoaaDoorCallB
set_option linter.all false
namespace Go.Proofs.YtcimkkcajkmfoaaDoor
open Go

theorem putOs_ok (f : Nat → Nat) : ∀ (ids : List Nat) (out : List Obj') (u : OB) (rest : List Obj'), putOs f ids out = some (u, rest) →
    rest = out.drop ids.length ∧ ids.length ≤ out.length ∧ (∀ o, getO u o = none ↔ o ∉ ids) ∧ ∀ (o : Nat) (x : Obj'), getO u o = some x → ∃ (k : Nat) (X : Obj'), ids[k]? = some o ∧ out[k]? = some X ∧ x = renO f X
  | [], out, u, rest, H => by
    simp only [putOs, Option.some.injEq, Prod.mk.injEq] at H
    obtain ⟨rfl, rfl⟩ := H
    exact ⟨by simp, by simp, fun o => by simp [getO], fun o x h => by simp [getO] at h⟩
  | o :: r, [], u, rest, H => by simp [putOs] at H
  | o :: r, X :: s, u, rest, H => by
    simp only [putOs] at H
    cases hp : putOs f r s with
    | none => simp [hp] at H
    | some y =>
      simp only [hp, Option.map_some, Option.some.injEq, Prod.mk.injEq] at H
      obtain ⟨rfl, rfl⟩ := H
      obtain ⟨h1, h2, h3, h4⟩ := putOs_ok f r s y.1 y.2 hp
      refine ⟨by simpa using h1, by simp; omega, fun p => ?_, fun p x hx => ?_⟩
      · simp only [getO, List.mem_cons, not_or]
        by_cases e : o = p
        · simp [e]
        · rw [if_neg e, h3]; simp [Ne.symm e]
      · simp only [getO] at hx
        split at hx
        · rename_i e; subst e
          injection hx with hx
          exact ⟨0, X, rfl, rfl, hx.symm⟩
        · obtain ⟨k, Y, g1, g2, g3⟩ := h4 p x hx
          exact ⟨k + 1, Y, by simpa using g1, by simpa using g2, g3⟩
theorem newOs_ok (ob : OB) (f : Nat → Nat) : ∀ (d : Nat) (rest : List Obj') (u : OB), newOs ob f d rest = some u →
    (∀ o, getO u o = none ↔ ¬ (d ≤ o ∧ o < d + rest.length)) ∧ (∀ o, d ≤ o → o < d + rest.length → getO ob o = none) ∧ ∀ (o : Nat) (x : Obj'), getO u o = some x → ∃ X : Obj', rest[o - d]? = some X ∧ x = renO f X
  | d, [], u, H => by
    simp only [newOs, Option.some.injEq] at H; subst H
    exact ⟨fun o => by simp only [getO, List.length_nil, true_iff]; omega, fun o h1 h2 => by simp at h2; omega, fun o x h => by simp [getO] at h⟩
  | d, X :: s, u, H => by
    simp only [newOs] at H
    split at H
    · rename_i y hn hy
      injection H with H; subst H
      obtain ⟨h1, h2, h3⟩ := newOs_ok ob f (d + 1) s y hy
      refine ⟨fun o => ?_, fun o g1 g2 => ?_, fun o x hx => ?_⟩
      · simp only [getO, List.length_cons]
        by_cases e : d = o
        · subst e; simp
        · rw [if_neg e, h1]; omega
      · by_cases e : d = o
        · subst e; exact hn
        · exact h2 o (by omega) (by simp at g2; omega)
      · simp only [getO] at hx
        split at hx
        · rename_i e; subst e
          injection hx with hx
          exact ⟨X, by simp, hx.symm⟩
        · rename_i e
          obtain ⟨Y, g1, g2⟩ := h3 o x hx
          have hlt := (not_congr (h1 o)).1 (by rw [hx]; simp)
          have : d + 1 ≤ o := by omega
          exact ⟨Y, by rw [show o - d = (o - (d + 1)) + 1 by omega]; simpa using g1, g2⟩
    · cases H
def backF (ids : List Nat) (d : Nat) (k : Nat) : Nat := if k < ids.length then nth ids k else d + (k - ids.length)

section
variable {C : Ctx} {γ γ1 γ2 G : Gh} {w w' : World} {act : Act} {sl : SL} {ob ob1 : OB}
theorem back_core (S : St C γ w act.tmps sl ob) (S1 : St C γ1 w act.tmps sl ob1) (hmu1 : γ1.mu = γ.mu) (hgn1 : γ1.gn = γ.gn) {bor ids : List Nat} (him1 : ∀ b, γ1.im b → γ.im b ∨ blkOf γ bor b)
    (hnd : ids.Nodup) (hids : ∀ o, o ∈ ids → ∃ x, getO ob o = some x) {d : Nat} {v : Value} {r : PV} {out : List Obj'} (R : Ret (C.enter γ w bor ids) γ2 w' v r ids.length out)
    (hGm : G.mu = γ2.mu) (hG : ∀ g b, G.q g b → γ2.im b ∧ (γ1.im b ∨ blkOf γ ids b ∨ w.heap.size ≤ b) ∧ (g = true → γ.gn b))
    (hobj : ∀ k x, out[k]? = some x → ∃ i, G.mu k = some i ∧ ORel C.fid G w'.heap x i) (hrv : RV C.fid G w'.heap v r)
    {u wn : OB} {rest : List Obj'} (hu : putOs (backF ids d) ids out = some (u, rest)) (hn : newOs ob (backF ids d) d rest = some wn) (hob1 : ∀ o, d ≤ o → o < d + rest.length → getO ob1 o = none) :
    ∃ γ', RV C.fid γ' w'.heap v (ren (backF ids d) r) ∧ St C γ' w' act.tmps sl ((wn ++ u) ++ ob1) := by
  obtain ⟨p1, p2, p3, p4⟩ := putOs_ok _ _ _ _ _ hu
  obtain ⟨n1, n2, n3⟩ := newOs_ok _ _ _ _ _ hn
  have hrl : rest.length = out.length - ids.length := by rw [p1]; simp
  let mu' : Nat → Option HI := fun o => if o ∈ ids then γ2.mu (idx ids o) else if d ≤ o ∧ o < d + rest.length then γ2.mu (ids.length + (o - d)) else γ.mu o
  let γ' : Gh := { mu := mu', im := fun b => γ1.im b ∨ (γ2.im b ∧ (blkOf γ ids b ∨ w.heap.size ≤ b)), gn := γ1.gn }
  have hnot : ∀ o, o ∈ ids → ¬ (d ≤ o ∧ o < d + rest.length) := fun o ho h => by
    obtain ⟨x, hx⟩ := hids o ho
    rw [n2 o h.1 h.2] at hx; cases hx
  -- the callee's numbers
  have hf : ∀ k i, γ2.mu k = some i → mu' (backF ids d k) = some i := by
    intro k i hi
    have hk := R.dom k i hi
    unfold backF
    by_cases h : k < ids.length
    · rw [if_pos h]
      have hm : nth ids k ∈ ids := List.mem_of_getElem? (nth_get ids k h)
      simp only [mu', hm, if_true, idx_nth ids k hnd h]; exact hi
    · rw [if_neg h]
      have hin : ¬ (d + (k - ids.length) ∈ ids) := fun h' => hnot _ h' ⟨by omega, by omega⟩
      simp only [mu', hin, if_false]
      rw [if_pos ⟨by omega, by omega⟩, show ids.length + (d + (k - ids.length) - d) = k by omega]; exact hi
  have M : ∀ S', Mv G γ' w'.heap w'.heap S' (backF ids d) := fun S' => ⟨fun o _ i hi => ⟨i, hf o i (by rw [← hGm]; exact hi), .inl rfl⟩, fun g b h => by
    obtain ⟨h1, h2, h3⟩ := hG g b h
    exact ⟨⟨by rcases h2 with h2 | h2
               · exact .inl h2
               · exact .inr ⟨h1, h2⟩, fun e => by show γ1.gn b; rw [hgn1]; exact h3 e⟩, rfl⟩⟩
  refine ⟨γ', RAt_map r _ _ (M _) hrv, ?_⟩
  have hdom : ∀ o, getO (wn ++ u) o = none ↔ o ∉ ids ∧ ¬ (d ≤ o ∧ o < d + rest.length) := by
    intro o
    rw [getO_app]
    cases hw : getO wn o with
    | some x =>
      show some x = none ↔ _
      exact ⟨(fun h => by cases h), fun ⟨_, h⟩ => absurd (Classical.not_not.1 ((not_congr (n1 o)).1 (by rw [hw]; simp))) h⟩
    | none => simp only [p3]; exact ⟨fun h => ⟨h, (n1 o).1 hw⟩, fun h => h.1⟩
  have hmuo : ∀ o, o ∉ ids → ¬ (d ≤ o ∧ o < d + rest.length) → mu' o = γ.mu o := fun o h1 h2 => by simp only [mu', h1, if_false]; rw [if_neg h2]
  have hblk : ∀ {o i b}, o ∉ ids → γ.mu o = some i → i.blk = some b → ¬ blkOf γ ids b ∧ b < w.heap.size := by
    intro o i b ho hi hb
    refine ⟨fun ⟨p, j, hp, hj, hjb⟩ => ?_, blk_lt S hi hb⟩
    have := S.inj o p i j b hi hj hb hjb
    exact ho (this ▸ hp)
  refine (S1.change (γ' := γ') (u := wn ++ u) ?_ ?_ ?_ rfl ?_ ?_ ?_ ?_ ?_).2.2
  · intro o ho
    obtain ⟨h1, h2⟩ := (hdom o).1 ho
    rw [hmu1]; exact hmuo o h1 h2
  · intro o i hi
    rw [hmu1] at hi
    by_cases ho : o ∈ ids
    · obtain ⟨h1, h2⟩ := nth_idx ids o ho
      obtain ⟨i', h3, h4⟩ := R.kept (idx ids o) i h2 (by simp only [Ctx.enter, Gh.ren, h2, if_true, h1]; exact hi)
      exact ⟨i', by simp only [γ', mu', ho, if_true]; exact h3, h4⟩
    · have : ¬ (d ≤ o ∧ o < d + rest.length) := fun h => by
        obtain ⟨x, hx⟩ := S.dom o i hi
        rw [n2 o h.1 h.2] at hx; cases hx
      exact ⟨i, by simp only [γ']; rw [hmuo o ho this]; exact hi, .inl rfl⟩
  · intro b hb
    exact ⟨.inl hb, (R.imk b (him1 b hb)).2⟩
  · intro o i b ho hi hb
    rw [hmu1] at hi
    obtain ⟨h1, h2⟩ := (hdom o).1 ho
    obtain ⟨g1, g2⟩ := hblk h1 hi hb
    refine ⟨R.chg.block b g2 (fun h => by rcases h with h | h; exact g1 h; exact absurd g2 (Nat.not_lt.2 h)), fun h => ?_⟩
    rcases h with h | ⟨_, h | h⟩
    · exact h
    · exact absurd h g1
    · omega
  · intro o x hx
    -- the object's number in the callee
    have hk : ∃ k X, o = backF ids d k ∧ out[k]? = some X ∧ x = renO (backF ids d) X := by
      rw [getO_app] at hx
      split at hx
      · rename_i y hy
        injection hx with hx; subst hx
        obtain ⟨X, g1, g2⟩ := n3 o y hy
        have hlt := Classical.not_not.1 ((not_congr (n1 o)).1 (by rw [hy]; simp))
        refine ⟨ids.length + (o - d), X, ?_, ?_, g2⟩
        · unfold backF; rw [if_neg (by omega)]; omega
        · rw [p1, List.getElem?_drop] at g1; exact g1
      · obtain ⟨k, X, g1, g2, g3⟩ := p4 o x hx
        refine ⟨k, X, ?_, g2, g3⟩
        have hkl := (List.getElem?_eq_some_iff.1 g1).1
        unfold backF; rw [if_pos hkl]
        rw [nth_get ids k hkl] at g1; injection g1 with g1; exact g1.symm
    obtain ⟨k, X, rfl, hX, rfl⟩ := hk
    obtain ⟨i, hi, h1, h2, h3, h4⟩ := hobj k X hX
    have hi2 : γ2.mu k = some i := by rw [← hGm]; exact hi
    refine ⟨i, hf k i hi2, ?_, fun b hb => ⟨?_, fun hfr him => ?_, fun o' i' g1 g2 => ?_, ?_⟩⟩
    · unfold renO
      split
      · rename_i hp
        refine ⟨h1, h2, h3, ?_⟩
        cases hbk : i.blk with
        | none => simpa only [hbk] using h4
        | some b =>
          simp only [hbk] at h4 ⊢
          obtain ⟨g1, cs, g2, g3, g4⟩ := h4
          refine ⟨g1, cs, g2, g3, ?_⟩
          rcases g4 with ⟨g4, g5⟩ | ⟨g4, _⟩
          · exact .inl ⟨g4, PEls_mono ((M []).q _) _ _ _ _ g5⟩
          · rw [hp] at g4; cases g4
      · rename_i hp
        refine ⟨h1, h2, by rw [length_renEls]; exact h3, ?_⟩
        cases hbk : i.blk with
        | none => simpa only [hbk] using h4
        | some b =>
          simp only [hbk] at h4 ⊢
          obtain ⟨g1, cs, g2, g3, g4⟩ := h4
          refine ⟨g1, cs, g2, g3, ?_⟩
          rcases g4 with ⟨g4, _⟩ | ⟨g4, g5⟩
          · exact absurd g4 hp
          · exact .inr ⟨g4, REls_map _ _ _ _ (M _) g5⟩
    · rcases R.own k i b hi2 hb with ⟨o, j, _, hj, hjb⟩ | h
      · exact S.own o j b hj hjb
      · exact .inr (Nat.le_trans S.chg.size h)
    · have hfr' : X.fro = false := by unfold renO at hfr; split at hfr <;> exact hfr
      have hn2 := R.unf k X i b hX hfr' hi2 hb
      rcases him with him | ⟨him, _⟩
      · exact hn2 (R.imk b (him1 b him)).1
      · exact hn2 him
    · by_cases ho : o' ∈ ids
      · simp only [γ', mu', ho, if_true] at g1
        have := R.inj k (idx ids o') i i' b hi2 g1 hb g2
        obtain ⟨q1, q2⟩ := nth_idx ids o' ho
        unfold backF; rw [this, if_pos q2, q1]
      · by_cases hr' : d ≤ o' ∧ o' < d + rest.length
        · simp only [γ', mu', ho, if_false] at g1
          rw [if_pos hr'] at g1
          have := R.inj k _ i i' b hi2 g1 hb g2
          unfold backF; rw [this, if_neg (by omega)]; omega
        · simp only [γ'] at g1
          rw [hmuo o' ho hr'] at g1
          obtain ⟨q1, q2⟩ := hblk ho g1 g2
          rcases R.own k i b hi2 hb with h | h
          · exact absurd h q1
          · exact absurd q2 (Nat.not_lt.2 h)
    · rcases R.place k i b hi2 hb with ⟨hk, j, hj, hjb⟩ | h
      · simp only [Ctx.enter, Gh.ren, hk, if_true] at hj
        have : backF ids d k = nth ids k := by unfold backF; rw [if_pos hk]
        rw [this]
        exact S.place _ j b hj hjb
      · exact .inr (S.fresh _ (Nat.le_trans S.chg.size h))
  · intro b hb
    rcases hb with hb | ⟨hb, _⟩
    · have := S1.lt b hb; have := R.chg.size; simp only [Ctx.enter] at this; omega
    · exact R.lt b hb
  · intro b hb
    rcases hb with hb | ⟨_, h | h⟩
    · exact .inl hb
    · obtain ⟨o, i, _, hi, hib⟩ := h
      exact .inr (S.own o i b hi hib)
    · exact .inr (.inr (Nat.le_trans S.chg.size h))
  · have := R.chg
    refine ⟨this.os, this.tape, this.output, this.size, fun k hk hA => this.block k hk (fun h => hA ?_)⟩
    rcases h with ⟨o, i, _, hi, hib⟩ | h
    · exact S.own o i k hi hib
    · exact .inr (Nat.le_trans S.chg.size h)
end
end Go.Proofs.YtcimkkcajkmfoaaDoor
