import Derived.Test.YtmhpkdcnhgmblaaDoorOpsZd
set_option linter.all false
namespace Go.Proofs.YtmhpkdcnhgmblaaDoor
section
open Go
theorem putOs_ok (f : Nat → Nat) : ∀ (ids : List Nat) (out : List Obj') (u : OB) (rest : List Obj'), putOs f ids out = some (u, rest) →
    rest = out.drop ids.length ∧ ids.length ≤ out.length ∧ (∀ o, getO u o = none ↔ o ∉ ids) ∧ ∀ (o : Nat) (x : Obj'), getO u o = some x → ∃ (k : Nat) (X : Obj'), ids[k]? = some o ∧ out[k]? = some X ∧ x = renO f X
  | [], out, u, rest, H => by
    simp only [putOs, Option.some.injEq, Prod.mk.injEq] at H
    obtain ⟨rfl, rfl⟩ := H
    exact ⟨by simp, by simp, fun o => by simp [getO], fun o x h => by simp [getO] at h⟩
  | o :: r, [], u, rest, H => by simp [putOs] at H
  | o :: r, X :: s, u, rest, H => by
    simp only [putOs] at H
    cases hp : putOs f r s with
    | none => simp [hp] at H
    | some y =>
      simp only [hp, Option.map_some, Option.some.injEq, Prod.mk.injEq] at H
      obtain ⟨rfl, rfl⟩ := H
      obtain ⟨h1, h2, h3, h4⟩ := putOs_ok f r s y.1 y.2 hp
      refine ⟨by simpa using h1, by simp; omega, fun p => ?_, fun p x hx => ?_⟩
      · simp only [getO, List.mem_cons, not_or]
        by_cases e : o = p
        · simp [e]
        · rw [if_neg e, h3]; simp [Ne.symm e]
      · simp only [getO] at hx
        split at hx
        · rename_i e; subst e
          injection hx with hx
          exact ⟨0, X, rfl, rfl, hx.symm⟩
        · obtain ⟨k, Y, g1, g2, g3⟩ := h4 p x hx
          exact ⟨k + 1, Y, by simpa using g1, by simpa using g2, g3⟩
theorem newOs_ok (ob : OB) (f : Nat → Nat) : ∀ (d : Nat) (rest : List Obj') (u : OB), newOs ob f d rest = some u →
    (∀ o, getO u o = none ↔ ¬ (d ≤ o ∧ o < d + rest.length)) ∧ (∀ o, d ≤ o → o < d + rest.length → getO ob o = none) ∧ ∀ (o : Nat) (x : Obj'), getO u o = some x → ∃ X : Obj', rest[o - d]? = some X ∧ x = renO f X
  | d, [], u, H => by
    simp only [newOs, Option.some.injEq] at H; subst H
    exact ⟨fun o => by simp only [getO, List.length_nil, true_iff]; omega, fun o h1 h2 => by simp at h2; omega, fun o x h => by simp [getO] at h⟩
  | d, X :: s, u, H => by
    simp only [newOs] at H
    split at H
    · rename_i y hn hy
      injection H with H; subst H
      obtain ⟨h1, h2, h3⟩ := newOs_ok ob f (d + 1) s y hy
      refine ⟨fun o => ?_, fun o g1 g2 => ?_, fun o x hx => ?_⟩
      · simp only [getO, List.length_cons]
        by_cases e : d = o
        · subst e; simp
        · rw [if_neg e, h1]; omega
      · by_cases e : d = o
        · subst e; exact hn
        · exact h2 o (by omega) (by simp at g2; omega)
      · simp only [getO] at hx
        split at hx
        · rename_i e; subst e
          injection hx with hx
          exact ⟨X, by simp, hx.symm⟩
        · rename_i e
          obtain ⟨Y, g1, g2⟩ := h3 o x hx
          have hlt := (not_congr (h1 o)).1 (by rw [hx]; simp)
          have : d + 1 ≤ o := by omega
          exact ⟨Y, by rw [show o - d = (o - (d + 1)) + 1 by omega]; simpa using g1, g2⟩
    · cases H
def backF (ids : List Nat) (d : Nat) (k : Nat) : Nat := if k < ids.length then nth ids k else d + (k - ids.length)
section
variable {C : Ctx} {γ γ1 γ2 G : Gh} {w w' : World} {act : Act} {sl : SL} {ob ob1 : OB}
theorem back_core (S : St C γ w act.tmps sl ob) (S1 : St C γ1 w act.tmps sl ob1) (hmu1 : γ1.mu = γ.mu) (hgn1 : γ1.gn = γ.gn) {bor ids : List Nat} (him1 : ∀ b, γ1.im b → γ.im b ∨ blkOf γ bor b)
    (hnd : ids.Nodup) (hids : ∀ o, o ∈ ids → ∃ x, getO ob o = some x) {d : Nat} {v : Value} {r : PV} {out : List Obj'} (R : Ret (C.enter γ w bor ids) γ2 w' v r ids.length out)
    (hGm : G.mu = γ2.mu) (hG : ∀ g b, G.q g b → γ2.im b ∧ (γ1.im b ∨ blkOf γ ids b ∨ w.heap.size ≤ b) ∧ (g = true → γ.gn b))
    (hobj : ∀ k x, out[k]? = some x → ∃ i, G.mu k = some i ∧ ORel C.fid G w'.heap x i) (hrv : RV C.fid G w'.heap v r)
    {u wn : OB} {rest : List Obj'} (hu : putOs (backF ids d) ids out = some (u, rest)) (hn : newOs ob (backF ids d) d rest = some wn) (hob1 : ∀ o, d ≤ o → o < d + rest.length → getO ob1 o = none) :
    ∃ γ', RV C.fid γ' w'.heap v (ren (backF ids d) r) ∧ St C γ' w' act.tmps sl ((wn ++ u) ++ ob1) := by
  obtain ⟨p1, p2, p3, p4⟩ := putOs_ok _ _ _ _ _ hu
  obtain ⟨n1, n2, n3⟩ := newOs_ok _ _ _ _ _ hn
  have hrl : rest.length = out.length - ids.length := by rw [p1]; simp
  let mu' : Nat → Option HI := fun o => if o ∈ ids then γ2.mu (idx ids o) else if d ≤ o ∧ o < d + rest.length then γ2.mu (ids.length + (o - d)) else γ.mu o
  let γ' : Gh := { mu := mu', im := fun b => γ1.im b ∨ (γ2.im b ∧ (blkOf γ ids b ∨ w.heap.size ≤ b)), gn := γ1.gn }
  have hnot : ∀ o, o ∈ ids → ¬ (d ≤ o ∧ o < d + rest.length) := fun o ho h => by
    obtain ⟨x, hx⟩ := hids o ho
    rw [n2 o h.1 h.2] at hx; cases hx
  have hf : ∀ k i, γ2.mu k = some i → mu' (backF ids d k) = some i := by
    intro k i hi
    have hk := R.dom k i hi
    unfold backF
    by_cases h : k < ids.length
    · rw [if_pos h]
      have hm : nth ids k ∈ ids := List.mem_of_getElem? (nth_get ids k h)
      simp only [mu', hm, if_true, idx_nth ids k hnd h]; exact hi
    · rw [if_neg h]
      have hin : ¬ (d + (k - ids.length) ∈ ids) := fun h' => hnot _ h' ⟨by omega, by omega⟩
      simp only [mu', hin, if_false]
      rw [if_pos ⟨by omega, by omega⟩, show ids.length + (d + (k - ids.length) - d) = k by omega]; exact hi
  have M : ∀ S', Mv G γ' w'.heap w'.heap S' (backF ids d) := fun S' => ⟨fun o _ i hi => ⟨i, hf o i (by rw [← hGm]; exact hi), .inl rfl⟩, fun g b h => by
    obtain ⟨h1, h2, h3⟩ := hG g b h
    exact ⟨⟨by rcases h2 with h2 | h2
               · exact .inl h2
               · exact .inr ⟨h1, h2⟩, fun e => by show γ1.gn b; rw [hgn1]; exact h3 e⟩, rfl⟩⟩
  refine ⟨γ', RAt_map r _ _ (M _) hrv, ?_⟩
  have hdom : ∀ o, getO (wn ++ u) o = none ↔ o ∉ ids ∧ ¬ (d ≤ o ∧ o < d + rest.length) := by
    intro o
    rw [getO_app]
    cases hw : getO wn o with
    | some x =>
      show some x = none ↔ _
      exact ⟨(fun h => by cases h), fun ⟨_, h⟩ => absurd (Classical.not_not.1 ((not_congr (n1 o)).1 (by rw [hw]; simp))) h⟩
    | none => simp only [p3]; exact ⟨fun h => ⟨h, (n1 o).1 hw⟩, fun h => h.1⟩
  have hmuo : ∀ o, o ∉ ids → ¬ (d ≤ o ∧ o < d + rest.length) → mu' o = γ.mu o := fun o h1 h2 => by simp only [mu', h1, if_false]; rw [if_neg h2]
  have hblk : ∀ {o i b}, o ∉ ids → γ.mu o = some i → i.blk = some b → ¬ blkOf γ ids b ∧ b < w.heap.size := by
    intro o i b ho hi hb
    refine ⟨fun ⟨p, j, hp, hj, hjb⟩ => ?_, blk_lt S hi hb⟩
    have := S.inj o p i j b hi hj hb hjb
    exact ho (this ▸ hp)
  refine (S1.change (γ' := γ') (u := wn ++ u) ?_ ?_ ?_ rfl ?_ ?_ ?_ ?_ ?_).2.2
  · intro o ho
    obtain ⟨h1, h2⟩ := (hdom o).1 ho
    rw [hmu1]; exact hmuo o h1 h2
  · intro o i hi
    rw [hmu1] at hi
    by_cases ho : o ∈ ids
    · obtain ⟨h1, h2⟩ := nth_idx ids o ho
      obtain ⟨i', h3, h4⟩ := R.kept (idx ids o) i h2 (by simp only [Ctx.enter, Gh.ren, h2, if_true, h1]; exact hi)
      exact ⟨i', by simp only [γ', mu', ho, if_true]; exact h3, h4⟩
    · have : ¬ (d ≤ o ∧ o < d + rest.length) := fun h => by
        obtain ⟨x, hx⟩ := S.dom o i hi
        rw [n2 o h.1 h.2] at hx; cases hx
      exact ⟨i, by simp only [γ']; rw [hmuo o ho this]; exact hi, .inl rfl⟩
  · intro b hb
    exact ⟨.inl hb, (R.imk b (him1 b hb)).2⟩
  · intro o i b ho hi hb
    rw [hmu1] at hi
    obtain ⟨h1, h2⟩ := (hdom o).1 ho
    obtain ⟨g1, g2⟩ := hblk h1 hi hb
    refine ⟨R.chg.block b g2 (fun h => by rcases h with h | h; exact g1 h; exact absurd g2 (Nat.not_lt.2 h)), fun h => ?_⟩
    rcases h with h | ⟨_, h | h⟩
    · exact h
    · exact absurd h g1
    · omega
  · intro o x hx
    have hk : ∃ k X, o = backF ids d k ∧ out[k]? = some X ∧ x = renO (backF ids d) X := by
      rw [getO_app] at hx
      split at hx
      · rename_i y hy
        injection hx with hx; subst hx
        obtain ⟨X, g1, g2⟩ := n3 o y hy
        have hlt := Classical.not_not.1 ((not_congr (n1 o)).1 (by rw [hy]; simp))
        refine ⟨ids.length + (o - d), X, ?_, ?_, g2⟩
        · unfold backF; rw [if_neg (by omega)]; omega
        · rw [p1, List.getElem?_drop] at g1; exact g1
      · obtain ⟨k, X, g1, g2, g3⟩ := p4 o x hx
        refine ⟨k, X, ?_, g2, g3⟩
        have hkl := (List.getElem?_eq_some_iff.1 g1).1
        unfold backF; rw [if_pos hkl]
        rw [nth_get ids k hkl] at g1; injection g1 with g1; exact g1.symm
    obtain ⟨k, X, rfl, hX, rfl⟩ := hk
    obtain ⟨i, hi, h1, h2, h3, h4⟩ := hobj k X hX
    have hi2 : γ2.mu k = some i := by rw [← hGm]; exact hi
    refine ⟨i, hf k i hi2, ?_, fun b hb => ⟨?_, fun hfr him => ?_, fun o' i' g1 g2 => ?_, ?_⟩⟩
    · unfold renO
      split
      · rename_i hp
        refine ⟨h1, h2, h3, ?_⟩
        cases hbk : i.blk with
        | none => simpa only [hbk] using h4
        | some b =>
          simp only [hbk] at h4 ⊢
          obtain ⟨g1, cs, g2, g3, g4⟩ := h4
          refine ⟨g1, cs, g2, g3, ?_⟩
          rcases g4 with ⟨g4, g5⟩ | ⟨g4, _⟩
          · exact .inl ⟨g4, PEls_mono ((M []).q _) _ _ _ _ g5⟩
          · rw [hp] at g4; cases g4
      · rename_i hp
        refine ⟨h1, h2, by rw [length_renEls]; exact h3, ?_⟩
        cases hbk : i.blk with
        | none => simpa only [hbk] using h4
        | some b =>
          simp only [hbk] at h4 ⊢
          obtain ⟨g1, cs, g2, g3, g4⟩ := h4
          refine ⟨g1, cs, g2, g3, ?_⟩
          rcases g4 with ⟨g4, _⟩ | ⟨g4, g5⟩
          · exact absurd g4 hp
          · exact .inr ⟨g4, REls_map _ _ _ _ (M _) g5⟩
    · rcases R.own k i b hi2 hb with ⟨o, j, _, hj, hjb⟩ | h
      · exact S.own o j b hj hjb
      · exact .inr (Nat.le_trans S.chg.size h)
    · have hfr' : X.fro = false := by unfold renO at hfr; split at hfr <;> exact hfr
      have hn2 := R.unf k X i b hX hfr' hi2 hb
      rcases him with him | ⟨him, _⟩
      · exact hn2 (R.imk b (him1 b him)).1
      · exact hn2 him
    · by_cases ho : o' ∈ ids
      · simp only [γ', mu', ho, if_true] at g1
        have := R.inj k (idx ids o') i i' b hi2 g1 hb g2
        obtain ⟨q1, q2⟩ := nth_idx ids o' ho
        unfold backF; rw [this, if_pos q2, q1]
      · by_cases hr' : d ≤ o' ∧ o' < d + rest.length
        · simp only [γ', mu', ho, if_false] at g1
          rw [if_pos hr'] at g1
          have := R.inj k _ i i' b hi2 g1 hb g2
          unfold backF; rw [this, if_neg (by omega)]; omega
        · simp only [γ'] at g1
          rw [hmuo o' ho hr'] at g1
          obtain ⟨q1, q2⟩ := hblk ho g1 g2
          rcases R.own k i b hi2 hb with h | h
          · exact absurd h q1
          · exact absurd q2 (Nat.not_lt.2 h)
    · rcases R.place k i b hi2 hb with ⟨hk, j, hj, hjb⟩ | h
      · simp only [Ctx.enter, Gh.ren, hk, if_true] at hj
        have : backF ids d k = nth ids k := by unfold backF; rw [if_pos hk]
        rw [this]
        exact S.place _ j b hj hjb
      · exact .inr (S.fresh _ (Nat.le_trans S.chg.size h))
  · intro b hb
    rcases hb with hb | ⟨hb, _⟩
    · have := S1.lt b hb; have := R.chg.size; simp only [Ctx.enter] at this; omega
    · exact R.lt b hb
  · intro b hb
    rcases hb with hb | ⟨_, h | h⟩
    · exact .inl hb
    · obtain ⟨o, i, _, hi, hib⟩ := h
      exact .inr (S.own o i b hi hib)
    · exact .inr (.inr (Nat.le_trans S.chg.size h))
  · have := R.chg
    refine ⟨this.os, this.tape, this.output, this.size, fun k hk hA => this.block k hk (fun h => hA ?_)⟩
    rcases h with ⟨o, i, _, hi, hib⟩ | h
    · exact S.own o i k hi hib
    · exact .inr (Nat.le_trans S.chg.size h)
end
end
section
open Go
theorem frz_ok (ob : OB) : ∀ (bor : List Nat) (z : OB), frz ob bor = some z → FrzOf ob z ∧ (∀ o, o ∈ bor → ∃ x, getO z o = some x) ∧ ∀ o x, getO z o = some x → o ∈ bor
  | [], z, H => by simp only [frz, Option.some.injEq] at H; subst H; exact ⟨FrzOf.nil, (fun o h => by cases h), fun o x h => by simp [getO] at h⟩
  | o :: r, z, H => by
    simp only [frz] at H
    split at H
    · rename_i x y hx hy
      split at H
      · injection H with H; subst H
        obtain ⟨h1, h2, h3⟩ := frz_ok ob r y hy
        refine ⟨fun p x' hp => ?_, fun p hp => ?_, fun p x' hp => ?_⟩
        · simp only [getO] at hp
          split at hp
          · rename_i e; subst e; injection hp with hp; exact ⟨x, hx, hp.symm⟩
          · exact h1 p x' hp
        · simp only [getO]
          by_cases e : o = p
          · rw [if_pos e]; exact ⟨_, rfl⟩
          · rw [if_neg e]; exact h2 p ((List.mem_cons.1 hp).resolve_left (fun h => e h.symm))
        · simp only [getO] at hp
          split at hp
          · rename_i e; subst e; exact List.mem_cons_self ..
          · exact List.mem_cons_of_mem _ (h3 p x' hp)
      · cases H
    · cases H
mutual
theorem ren_none (f : Nat → Nat) : ∀ v, refs v = [] → ren f v = v
  | .b _, _ | .i _ _, _ | .s _, _ | .l _ _, _ | .ln _ _, _ | .e _, _ | .q .., _ | .np, _ | .blob .., _ | .nf, _ | .ub, _ | .un, _ => by simp only [ren]
  | .sl .., h | .bs .., h | .p .., h | .y .., h => by simp [refs] at h
  | .agg cs, h => by simp only [refs] at h; simp only [ren, renL_none f cs h]
  | .tup cs, h => by simp only [refs] at h; simp only [ren, renL_none f cs h]
  | .fn _ a b, h => by simp only [refs, List.append_eq_nil_iff] at h; simp only [ren, renL_none f a h.1, renL_none f b h.2]
theorem renL_none (f : Nat → Nat) : ∀ l, refsL l = [] → renL f l = l
  | [], _ => rfl
  | v :: r, h => by simp only [refsL, List.append_eq_nil_iff] at h; simp only [renL, ren_none f v h.1, renL_none f r h.2]
end
theorem back0_back {ob : OB} {d : Nat} {bor : List Nat} {r : PV} {out : List Obj'} {res : Up} (H : back0 ob d bor r out = some res) : back ob d bor [] r out = some res := by
  have hf : (fun k => if k < ([] : List Nat).length then nth [] k else d + (k - ([] : List Nat).length)) = (d + ·) := by funext k; simp
  unfold back
  simp only [hf, putOs]
  unfold back0 at H
  split at H
  · simp only [List.length_nil, Nat.not_lt_zero, if_false, newOs, List.all_nil, Bool.and_true, List.append_nil, List.nil_append] at H ⊢
    exact H
  · split at H
    · cases H
    · rename_i hl
      rw [if_neg hl]
      split at H
      · cases H
      · rename_i w hw
        simp only [List.append_nil]
        exact H
section
variable {P : Program} {C : Ctx} {γ γ2 : Gh} {w w' : World} {act : Act} {sl : SL} {ob : OB}
theorem enter_gn (S : St C γ w act.tmps sl ob) {bor ids : List Nat} {b : Nat} (h : (C.enter γ w bor ids).gn b) : γ.gn b := by
  rcases h with h | ⟨o, i, _, hi, hb⟩ | h
  · exact h.2
  · exact blk_gn S hi hb
  · rw [S.gn]; exact S.gnew b (.inr (Nat.le_trans S.chg.size h))
theorem back_ok (S : St C γ w act.tmps sl ob) {bor ids : List Nat} (hnd : ids.Nodup) (hids : ∀ o, o ∈ ids → ∃ x, getO ob o = some x) {d : Nat} {v : Value} {r : PV} {out : List Obj'} {res : Up} (R : Ret (C.enter γ w bor ids) γ2 w' v r ids.length out)
    (H : back ob d bor ids r out = some res) : ∃ γ', RV C.fid γ' w'.heap v res.1 ∧ St C γ' w' act.tmps sl (res.2 ++ ob) := by
  unfold back at H
  simp only at H
  rw [show (fun k => if k < ids.length then nth ids k else d + (k - ids.length)) = backF ids d from rfl] at H
  split at H
  · cases H
  · rename_i u rest hu
    split at H
    · cases H
    · split at H
      · cases H
      · rename_i wn hn
        have hgn2 : ∀ b, γ2.gn b → γ.gn b := fun b h => enter_gn S (R.gn ▸ h)
        have himn : ∀ b, γ2.im b → (γ.im b ∨ blkOf γ bor b) ∨ blkOf γ ids b ∨ w.heap.size ≤ b := fun b h => R.imn b h
        split at H
        · rename_i hc
          injection H with H; subst H
          by_cases hb : bor = []
          · subst hb
            have hG : ∀ g b, γ2.q g b → γ2.im b ∧ (γ.im b ∨ blkOf γ ids b ∨ w.heap.size ≤ b) ∧ (g = true → γ.gn b) := fun g b h =>
              ⟨h.1, (himn b h.1).imp (fun h => h.resolve_right fun ⟨o, _, ho, _⟩ => by cases ho) id, fun e => hgn2 b (h.2 e)⟩
            exact back_core S S rfl rfl (fun b h => .inl h) hnd hids R rfl hG R.obj R.rv hu hn (newOs_ok _ _ _ _ _ hn).2.1
          · have hc : noExt r = true ∧ out.all noExtO = true := by
              have : bor.isEmpty = false := by cases bor with
                | nil => exact absurd rfl hb
                | cons x y => rfl
              simpa [this] using hc
            have hG : ∀ g b, γ2.good.q g b → γ2.im b ∧ (γ.im b ∨ blkOf γ ids b ∨ w.heap.size ≤ b) ∧ (g = true → γ.gn b) := fun g b h => by
              obtain ⟨⟨h1, h2⟩, _⟩ := h
              refine ⟨h1, ?_, fun _ => hgn2 b h2⟩
              rw [R.gn] at h2
              rcases h2 with h2 | h2 | h2
              · exact .inl h2.1
              · exact .inr (.inl h2)
              · exact .inr (.inr h2)
            refine back_core S S rfl rfl (fun b h => .inl h) hnd hids R (G := γ2.good) rfl hG (fun k x hx => ?_) (RAt_good r _ _ hc.1 R.rv) hu hn (newOs_ok _ _ _ _ _ hn).2.1
            obtain ⟨i, hi, h⟩ := R.obj k x hx
            exact ⟨i, hi, ORel_good (List.all_eq_true.1 hc.2 x (List.mem_of_getElem? hx)) h⟩
        · cases hz : frz ob bor with
          | none => simp [hz] at H
          | some z =>
            simp only [hz, Option.map_some, Option.some.injEq] at H; subst H
            obtain ⟨f1, f2, f3⟩ := frz_ok ob bor z hz
            obtain ⟨M, S1⟩ := S.frz f1
            have hbor : ∀ b, blkOf γ bor b → (γ.frz z).im b := fun b ⟨o, i, ho, hi, hb⟩ => by
              obtain ⟨x, hx⟩ := f2 o ho
              exact .inr ⟨o, x, i, hx, hi, hb⟩
            have hG : ∀ g b, γ2.q g b → γ2.im b ∧ ((γ.frz z).im b ∨ blkOf γ ids b ∨ w.heap.size ≤ b) ∧ (g = true → γ.gn b) := fun g b h =>
              ⟨h.1, (himn b h.1).imp (fun h => h.elim .inl (hbor b)) id, fun e => hgn2 b (h.2 e)⟩
            obtain ⟨n1, n2, n3⟩ := newOs_ok _ _ _ _ _ hn
            have hzb : ∀ b, (γ.frz z).im b → γ.im b ∨ blkOf γ bor b := fun b h => h.imp id fun ⟨o, x, i, hx, hi, hb⟩ => ⟨o, i, f3 o x hx, hi, hb⟩
            have := back_core S S1 rfl rfl hzb hnd hids R rfl hG R.obj R.rv hu hn (fun o h1 h2 => by
              rw [getO_app]
              cases hzo : getO z o with
              | none => exact n2 o h1 h2
              | some x =>
                obtain ⟨y, hy, _⟩ := f1 o x hzo
                rw [n2 o h1 h2] at hy; cases hy)
            simpa only [List.append_assoc] using this
theorem putOs_len (f : Nat → Nat) : ∀ (ids : List Nat) (l : List Obj') (y : OB × List Obj'), putOs f ids l = some y → ids.length ≤ l.length
  | [], _, _, _ => Nat.zero_le _
  | o :: r, x :: s, y, h => by
    simp only [putOs] at h
    cases hp : putOs f r s with
    | none => simp [hp] at h
    | some z => have := putOs_len f r s z hp; simp; exact this
  | _ :: _, [], _, h => by simp [putOs] at h
theorem back_len {ob : OB} {d : Nat} {bor ids : List Nat} {r : PV} {out : List Obj'} {res : Up} (h : back ob d bor ids r out = some res) : ids.length ≤ out.length := by
  unfold back at h
  simp only at h
  split at h
  · cases h
  · rename_i u rest hp
    exact putOs_len _ _ _ _ hp
theorem ca_ok {Φ : Sem'} (hΦ : Sound P C.fid C.glob Φ) (S : St C γ w act.tmps sl ob) {vals : Array Value} {args : List PV} (hR : RL C.fid γ w.heap vals 0 args) (hs : vals.size = args.length) {f0 : FuncId} {d : Nat} {raw : Bool} {res : Up}
    (H : ca Φ ob d raw (C.fid f0) args = some res) : Calls P f0 vals w fun e w' => (∃ v γ', e = .returned v ∧ RV C.fid γ' w'.heap v res.1 ∧ St C γ' w' act.tmps sl (res.2 ++ ob)) ∧ Bodied P f0 := by
  unfold ca at H
  split at H
  · cases H
  · rename_i as bor hh
    have hand' : ∀ ids, RL C.fid (γ.lend w bor ids) w.heap vals 0 as ∧ as.length = args.length := by
      intro ids
      unfold hand at hh
      split at hh
      · simp only [Option.some.injEq, Prod.mk.injEq] at hh; obtain ⟨rfl, rfl⟩ := hh
        exact ⟨RL_mono ((lend_lent γ w [] ids).mv _ _) hR, rfl⟩
      · exact reifies_ok S hh (lend_lent γ w bor ids) hR
    have go : ∀ ids os r out, reach ob 20 (refsL as) [] = some ids → ids.any (bor.contains ·) = false → getOs ob ids = some os → Φ (C.fid f0) (renL (idx ids) as) (os.map (renO (idx ids))) = some (r, out) → back ob d bor ids r out = some res →
        Calls P f0 vals w fun e w' => (∃ v γ', e = .returned v ∧ RV C.fid γ' w'.heap v res.1 ∧ St C γ' w' act.tmps sl (res.2 ++ ob)) ∧ Bodied P f0 := by
      intro ids os r out hre hdj hos hphi hback
      obtain ⟨h1, h2⟩ := hand' ids
      have henter := enter_ok S h1 (by rw [hs, h2]) (fun _ h => h) hre hdj hos
      obtain ⟨hnd, _, _, hcl⟩ := reach_ok ob 20 _ _ _ hre (by simp) (fun o h => by cases h)
      obtain ⟨hol, _⟩ := getOs_ok ob ids os hos
      have hlen := reach_len ob 20 _ _ _ hre
      simp only [List.length_nil] at hlen
      have hlo : ids.length ≤ out.length := back_len hback
      have hc := hΦ f0 _ _ r out hphi (by rw [List.length_map, hol]; exact hlo) (C.enter γ w bor ids) vals rfl rfl (by rw [length_renL, hs, h2]) (by rw [List.length_map, hol]; omega) (fun _ => Iff.rfl) henter
      intro cs
      obtain ⟨e, w', fr, ⟨v, γ2, he, hret, hfn⟩, rest⟩ := hc cs
      rw [List.length_map, hol] at hret
      obtain ⟨γ', g1, g2⟩ := back_ok S hnd (fun o ho => by obtain ⟨x, hx, _⟩ := hcl o ho; exact ⟨x, hx⟩) hret hback
      exact ⟨e, w', fr, ⟨⟨v, γ', he, g1, g2⟩, hfn⟩, rest⟩
    split at H
    · cases H
    · rename_i hre
      split at H
      · cases H
      · rename_i r out hphi
        have hnil : refsL as = [] := by
          obtain ⟨_, _, h3, _⟩ := reach_ok ob 20 _ _ _ hre (by simp) (fun o h => by cases h)
          cases hl : refsL as with
          | nil => rfl
          | cons o l => exact absurd (h3 o (by rw [hl]; simp)) (by simp)
        exact go [] [] r out hre rfl rfl (by rw [renL_none _ _ hnil]; exact hphi) (back0_back H)
    · rename_i ids hne hre
      split at H
      · cases H
      · rename_i hdj
        split at H
        · cases H
        · rename_i os hos
          split at H
          · cases H
          · rename_i r out hphi
            exact go ids os r out hre (by simpa using hdj) hos hphi H
end
end
section
open Go
section
variable (P : Program) (E : Env)
noncomputable def opA (Φ : Sem') (sl : SL) (ob : OB) (d : Nat) (o : Op) : Option Up :=
  match opV P E sl o with
  | some v => some (v, [])
  | none => match opP P E sl ob o with
    | some x => x.map fun v => (v, [])
    | none => match opO P E Φ sl ob d o with
      | some x => x
      | none => none
def wantA (ops : Array Oper) (o : Oper) (sl : SL) : Option Bool :=
  match o.guard with
  | none => some true
  | some (j, w) => match (ops[j]?).bind (·.dst) with
    | none => none
    | some t => match getS sl t with
      | .b c => some (c == w)
      | .tup [] => some false
      | _ => none
noncomputable def stepA (Φ : Sem') (ops : Array Oper) (o : Oper) (x : SL × OB) : Option (SL × OB) :=
  match wantA ops o x.1 with
  | none => none
  | some true => (opA P E Φ x.1 x.2 (nid o.dst) o.op).map fun r => (putS o.dst r.1 x.1, r.2 ++ x.2)
  | some false => some (putS o.dst (.tup []) x.1, x.2)
variable {P E}
theorem gd_some {g : PV} {w : Bool} {x : Option PV} {v : PV} (H : gd g w x = some v) : (g = .b w ∧ x = some v) ∨ (((∃ c, g = .b c ∧ (c == w) = false) ∨ g = .tup []) ∧ v = .tup []) := by
  unfold gd at H
  split at H
  · rename_i c
    split at H
    · rename_i e; subst e; exact .inl ⟨rfl, H⟩
    · rename_i e; injection H with H; exact .inr ⟨.inl ⟨c, rfl, by simpa using e⟩, H.symm⟩
  · injection H with H; exact .inr ⟨.inr rfl, H.symm⟩
  · cases H
theorem gdO_some {g : PV} {w : Bool} {x : Option Up} {v : Up} (H : gdO g w x = some v) : (g = .b w ∧ x = some v) ∨ (((∃ c, g = .b c ∧ (c == w) = false) ∨ g = .tup []) ∧ v = (.tup [], [])) := by
  unfold gdO at H
  split at H
  · rename_i c
    split at H
    · rename_i e; subst e; exact .inl ⟨rfl, H⟩
    · rename_i e; injection H with H; exact .inr ⟨.inl ⟨c, rfl, by simpa using e⟩, H.symm⟩
  · injection H with H; exact .inr ⟨.inr rfl, H.symm⟩
  · cases H
theorem bnd_some {α β : Type} {x : Option α} {f : α → Option β} {r : β} (H : bnd x f = some r) : ∃ a, x = some a ∧ f a = some r := by
  cases x with
  | none => simp [bnd] at H
  | some a => exact ⟨a, rfl, H⟩
theorem bndO_some {β : Type} {x : Option Up} {ob : OB} {f : PV → OB → Option β} {r : β} (H : bndO x ob f = some r) : ∃ a, x = some a ∧ f a.1 (a.2 ++ ob) = some r := by
  cases x with
  | none => simp [bndO] at H
  | some a => exact ⟨a, rfl, H⟩
theorem denI_step {Φ : Sem'} {ops : Array Oper} {o : Oper} {K : SL → OB → Option R} {sl : SL} {ob : OB} {r : R} (H : denI P E Φ ops o K sl ob = some r) :
    ∃ x, stepA P E Φ ops o (sl, ob) = some x ∧ K x.1 x.2 = some r := by
  unfold denI at H
  split at H
  · rename_i hg
    have hw : wantA ops o sl = some true := by simp [wantA, hg]
    split at H
    · rename_i v hv
      exact ⟨(putS o.dst v sl, ob), by simp [stepA, hw, opA, hv], H⟩
    · rename_i hv
      split at H
      · rename_i x hx
        obtain ⟨v, rfl, H⟩ := bnd_some H
        exact ⟨(putS o.dst v sl, ob), by simp [stepA, hw, opA, hv, hx], H⟩
      · rename_i hx
        split at H
        · rename_i x hy
          obtain ⟨u, rfl, H⟩ := bndO_some H
          exact ⟨(putS o.dst u.1 sl, u.2 ++ ob), by simp [stepA, hw, opA, hv, hx, hy], H⟩
        · cases H
  · rename_i j w hg
    split at H
    · cases H
    · rename_i t ht
      have hwant : getS sl t = .b w → wantA ops o sl = some true := fun h => by simp [wantA, hg, ht, h]
      have hskip : ((∃ c, getS sl t = .b c ∧ (c == w) = false) ∨ getS sl t = .tup []) → wantA ops o sl = some false := by
        rintro (⟨c, h, e⟩ | h)
        · simp only [wantA, hg, ht, h, e]
        · simp only [wantA, hg, ht, h]
      split at H
      · rename_i v hv
        obtain ⟨v', hgd, H2⟩ := bnd_some H
        rcases gd_some hgd with ⟨h1, h2⟩ | ⟨h1, h2⟩
        · injection h2 with h2; subst h2
          exact ⟨(putS o.dst v sl, ob), by simp [stepA, hwant h1, opA, hv], H2⟩
        · subst h2
          exact ⟨(putS o.dst (.tup []) sl, ob), by simp [stepA, hskip h1], H2⟩
      · rename_i hv
        split at H
        · rename_i x hx
          obtain ⟨v', hgd, H2⟩ := bnd_some H
          rcases gd_some hgd with ⟨h1, h2⟩ | ⟨h1, h2⟩
          · subst h2
            exact ⟨(putS o.dst v' sl, ob), by simp [stepA, hwant h1, opA, hv, hx], H2⟩
          · subst h2
            exact ⟨(putS o.dst (.tup []) sl, ob), by simp [stepA, hskip h1], H2⟩
        · rename_i hx
          split at H
          · rename_i x hy
            obtain ⟨u, hgd, H2⟩ := bndO_some H
            rcases gdO_some hgd with ⟨h1, h2⟩ | ⟨h1, h2⟩
            · subst h2
              exact ⟨(putS o.dst u.1 sl, u.2 ++ ob), by simp [stepA, hwant h1, opA, hv, hx, hy], H2⟩
            · subst h2
              exact ⟨(putS o.dst (.tup []) sl, ob), by simp [stepA, hskip h1], by simpa using H2⟩
          · cases H
noncomputable def runA (P : Program) (E : Env) (Φ : Sem') (ops : Array Oper) : List Oper → SL × OB → Option (SL × OB)
  | [], x => some x
  | o :: r, x => match stepA P E Φ ops o x with
    | some y => runA P E Φ ops r y
    | none => none
theorem disK_some {E : Env} {ops : Array Oper} {o : Op} {tr : List (Nat × List PV)} {x : List PV} {k : Option R} {r : R} : ∀ {l : List Nat}, disK E ops o tr x l k = some r → k = some r ∧ ∀ i ∈ l, disP E ops o i (look tr i) x = some ()
  | [], H => ⟨H, fun i h => by cases h⟩
  | i :: l, H => by
    simp only [disK] at H
    obtain ⟨u, h1, h2⟩ := bnd_some H
    obtain ⟨g1, g2⟩ := disK_some h2
    exact ⟨g1, fun j hj => by
      rcases List.mem_cons.1 hj with rfl | hj
      · exact h1
      · exact g2 j hj⟩
theorem denOps_run {Φ : Sem'} {ops : Array Oper} {pr : List (Nat × Nat)} {K : SL → OB → Option R} {r : R} : ∀ {l : List Oper} {j : Nat} {tr : List (Nat × List PV)} {sl : SL} {ob : OB}, denOps P E Φ ops pr K j tr l sl ob = some r →
    ∃ x, runA P E Φ ops l (sl, ob) = some x ∧ K x.1 x.2 = some r
  | [], j, tr, sl, ob, H => ⟨(sl, ob), rfl, H⟩
  | o :: l, j, tr, sl, ob, H => by
    simp only [denOps] at H
    obtain ⟨H, _⟩ := disK_some H
    obtain ⟨x, h1, h2⟩ := denI_step H
    obtain ⟨y, h3, h4⟩ := denOps_run h2
    exact ⟨y, by simp only [runA, h1]; exact h3, h4⟩
end
end
section
open Go
def Runs (P : Program) (ρ : Operand → Value) (o : Oper) (w : World) (Post : Value → World → Prop) : Prop :=
  (∃ x w', (execOp ρ o).run P w = .ok (.value x) w' ∧ Post x w') ∨ (∃ w', (execOp ρ o).run P w = .ok .skip w' ∧ Post undef w') ∨
    ∃ f args w', (execOp ρ o).run P w = .ok (.enter f args) w' ∧ Calls P f args w' fun e w'' => ∃ v, e = .returned v ∧ Post v w''
section
variable {P : Program} {E : Env} {C : Ctx} {γ : Gh} {w : World} {a : Act} {sl : SL} {ob : OB}
theorem want_ok (S : St C γ w a.tmps sl ob) {ops : Array Oper} {o : Oper} {b : Bool} (H : wantA ops o sl = some b) : Region.wanted o (yielded ops a.tmps) = b := by
  unfold wantA at H
  unfold Region.wanted
  split at H
  · rename_i hg
    injection H with H
    rw [hg]; exact H
  · rename_i j w' hg
    rw [hg]
    split at H
    · cases H
    · rename_i t ht
      have hs := S.slot t
      split at H
      · rename_i c hc
        injection H with H
        rw [hc, RV_b] at hs
        have h1 : a.tmps[t]? = some (.bool c) := by
          cases h : a.tmps[t]? with
          | none => simp [Array.getD_eq_getD_getElem?, h, undef] at hs
          | some x => simp [Array.getD_eq_getD_getElem?, h] at hs; rw [hs]
        simp only [yielded, ht, Option.bind_some, h1]
        rw [← H]
        cases c <;> cases w' <;> rfl
      · rename_i hc
        injection H with H
        rw [hc, RV_tup] at hs
        obtain ⟨arr, hs, _, _⟩ := hs
        have h1 : ∀ d, a.tmps[t]? ≠ some (.bool d) := by
          intro d h
          simp [Array.getD_eq_getD_getElem?, h] at hs
        simp only [yielded, ht, Option.bind_some]
        rw [← H]
        cases h : a.tmps[t]? with
        | none => rfl
        | some x =>
          cases x <;> first | rfl | exact absurd h (h1 _)
      · cases H
theorem opA_ok (hE : E.fid = C.fid) (hG : E.glob = C.glob) (S : St C γ w a.tmps sl ob) {Φ : Sem'} {o : Oper} {d : Nat} {r : Up} (hcall : ∀ f args tys, o.op ≠ .call { callee := .value f, args := args, argTypes := tys }) (H : opA P E Φ sl ob d o.op = some r) :
    Runs P a.eval o w fun x w' => ∃ γ', RV C.fid γ' w'.heap x r.1 ∧ St C γ' w' a.tmps sl (r.2 ++ ob) := by
  unfold opA at H
  split at H
  · rename_i v hv
    injection H with H; subst H
    obtain ⟨x, h1, h2⟩ := opV_ok hE hG S hv
    exact .inl ⟨x, w, h1, γ, h2, S⟩
  · split at H
    · rename_i x hx
      cases x with
      | none => simp at H
      | some v =>
        simp only [Option.map_some, Option.some.injEq] at H; subst H
        obtain ⟨x, h1, h2⟩ := opP_ok hE hG S hx
        exact .inl ⟨x, w, h1, γ, h2, S⟩
    · split at H
      · rename_i x hx
        subst H
        obtain ⟨nx, x, w', γ', h1, h2, h3, h4⟩ := opO_ok hE hG S hcall hx
        rcases h2 with rfl | ⟨rfl, rfl⟩
        · exact .inl ⟨x, w', h1, γ', h3, h4⟩
        · exact .inr (.inl ⟨w', h1, γ', h3, h4⟩)
      · cases H
theorem RL_app {fid : Nat → Nat} {γ : Gh} {h : Array Obj} {cs : Array Value} : ∀ {a b : List PV} {off : Nat}, RL fid γ h cs off (a ++ b) ↔ RL fid γ h cs off a ∧ RL fid γ h cs (off + a.length) b
  | [], b, off => by simp [RL]
  | v :: r, b, off => by
    simp only [List.cons_append, RL, RL_app (a := r), and_assoc, List.length_cons]
    rw [show off + 1 + r.length = off + (r.length + 1) by omega]
theorem RL_at {fid : Nat → Nat} {γ : Gh} {h : Array Obj} {cs cs' : Array Value} : ∀ {l : List PV} {off off' : Nat}, (∀ i x, i < l.length → cs[off + i]? = some x → cs'[off' + i]? = some x) → RL fid γ h cs off l → RL fid γ h cs' off' l
  | [], _, _, _, _ => by simp only [RL]
  | v :: r, off, off', H, R => by
    simp only [RL] at R ⊢
    obtain ⟨⟨x, hx, h1⟩, h2⟩ := R
    refine ⟨⟨x, by simpa using H 0 x (by simp) (by simpa using hx), h1⟩, RL_at (fun i y hi hy => ?_) h2⟩
    have := H (i + 1) y (by simp; omega) (by rw [show off + (i + 1) = off + 1 + i by omega]; exact hy)
    rwa [show off' + (i + 1) = off' + 1 + i by omega] at this
theorem calls_bodied {f : FuncId} {args : Array Value} {w : World} {R : Ending → World → Prop} (h : Calls P f args w fun e w' => R e w' ∧ Bodied P f) : Bodied P f := by
  obtain ⟨e, w', fr, ⟨_, hb⟩, _⟩ := h []
  exact hb
theorem run_callFunc {f : FuncId} {args : Array Value} (hb : Bodied P f) : (callFunc f args).run P w = .ok (.enter f args) w := by
  obtain ⟨fn, h1, h2, h3⟩ := hb
  unfold callFunc
  simp only [Sem.run_bind, run_program, Result.andThen_ok, h1]
  rw [if_neg (by rw [h3]; simp), if_neg (by rw [h2]; simp)]
  rfl
theorem call_ok (hE : E.fid = C.fid) (hG : E.glob = C.glob) (S : St C γ w a.tmps sl ob) {Φ : Sem'} (hΦ : Sound P C.fid C.glob Φ) {o : Oper} {d : Nat} {r : Up} {f : Operand} {args : Array Operand} {tys : Array TypeId} (ho : o.op = .call { callee := .value f, args := args, argTypes := tys })
    {raw : Bool} (H : (∃ f0, f = .func f0 ∧ ca Φ ob d raw (E.fid f0) (evs E sl args.toList) = some r) ∨ cav Φ ob d raw (ev E sl f) (evs E sl args.toList) = some r) :
    Runs P a.eval o w fun x w' => ∃ γ', RV C.fid γ' w'.heap x r.1 ∧ St C γ' w' a.tmps sl (r.2 ++ ob) := by
  have hargs := evs_ok' hE hG S args
  have go : ∀ (f0 : FuncId) (first caps : Array Value) (fs cs : List PV), a.eval f = .func (.func f0) first caps → RL C.fid γ w.heap first 0 fs → first.size = fs.length → RL C.fid γ w.heap caps 0 cs → caps.size = cs.length →
      ca Φ ob d raw (C.fid f0) (fs ++ (evs E sl args.toList ++ cs)) = some r → Runs P a.eval o w fun x w' => ∃ γ', RV C.fid γ' w'.heap x r.1 ∧ St C γ' w' a.tmps sl (r.2 ++ ob) := by
    intro f0 first caps fs cs hf h1 h2 h3 h4 hca
    have hlen : (evs E sl args.toList).length = args.size := by rw [evs_len]; simp
    have hRL : RL C.fid γ w.heap (first ++ args.map a.eval ++ caps) 0 (fs ++ (evs E sl args.toList ++ cs)) := by
      rw [RL_app, RL_app]
      refine ⟨RL_at (fun i x hi hx => ?_) h1, RL_at (fun i x hi hx => ?_) hargs, RL_at (fun i x hi hx => ?_) h3⟩
      · rw [Nat.zero_add] at hx ⊢
        rw [Array.append_assoc, Array.getElem?_append_left (by omega)]; exact hx
      · rw [Nat.zero_add] at hx
        rw [Array.getElem?_append_left (by simp; omega), Array.getElem?_append_right (by omega), h2, show 0 + fs.length + i - fs.length = i by omega]; exact hx
      · rw [Nat.zero_add] at hx
        rw [Array.getElem?_append_right (by simp; omega)]
        rw [show 0 + fs.length + (evs E sl args.toList).length + i - (first ++ args.map a.eval).size = i by simp [h2, hlen]]; exact hx
    have hsz : (first ++ args.map a.eval ++ caps).size = (fs ++ (evs E sl args.toList ++ cs)).length := by simp [h2, h4, hlen]
    have hc := ca_ok hΦ S hRL hsz hca
    have hb := calls_bodied hc
    refine .inr (.inr ⟨f0, first ++ args.map a.eval ++ caps, w, ?_, fun cs => ?_⟩)
    · simp [execOp, ho, resolve, Deferred.ofValue, hf, invoke, run_callFunc hb]
    · obtain ⟨e, w', fr, ⟨⟨v, γ', he, g1, g2⟩, _⟩, rest⟩ := hc cs
      exact ⟨e, w', fr, ⟨v, he, γ', g1, g2⟩, rest⟩
  rcases H with ⟨f0, rfl, H⟩ | H
  · exact go f0 #[] #[] [] [] rfl (by simp only [RL]) rfl (by simp only [RL]) rfl (by rw [← hE]; simpa using H)
  · unfold cav at H
    split at H
    · rename_i k fs caps hk
      have hf := ev_ok hE hG S f
      rw [hk, RV_fn] at hf
      obtain ⟨f0, a1, a2, e1, e2, ⟨s1, r1⟩, s2, r2⟩ := hf
      exact go f0 a1 a2 fs caps e1 r1 s1 r2 s2 (by rw [e2]; exact H)
    · cases H
end
end
section
open Go
section
variable {P : Program} {E : Env} {C : Ctx} {γ : Gh} {w : World} {a : Act} {sl : SL} {ob : OB}
theorem reify1_eq {ob : OB} {v : PV} {q : PV × List Nat} (H : reify1 ob v = some q) : reify ob v = some q := by
  unfold reify1 at H
  unfold reify
  split at H
  · exact H
  · rename_i v' hv
    split
    · exact absurd rfl (hv _)
    · rename_i o ver lo n
      cases hx : getO ob o with
      | none => simp [reify0, hx, contX] at H
      | some x =>
        by_cases hp : x.pu = true
        · simp only [hp, if_true]; exact H
        · simp [reify0, hx, contX, hp] at H
    · exact H
theorem reifies1_eq {ob : OB} : ∀ {l : List PV} {q : List PV × List Nat}, reifies1 ob l = some q → reifies ob l = some q
  | [], q, H => H
  | v :: r, q, H => by
    simp only [reifies1] at H
    split at H
    · rename_i a b ha hb
      simp only [reifies, reify1_eq ha, reifies1_eq hb]; exact H
    · cases H
theorem reifiesN_eq {ob : OB} {n : Bool} {l : List PV} {q : List PV × List Nat} (H : reifiesN n ob l = some q) : reifies ob l = some q := by
  unfold reifiesN at H
  split at H
  · exact H
  · exact reifies1_eq H
theorem ca0_ca {Φ : Sem'} {ob : OB} {d f : Nat} {n : Bool} {args : List PV} {r : Up} (H : ca0 Φ ob d n f args = some r) : ca Φ ob d false f args = some r := by
  unfold ca0 at H
  cases hq : reifiesN n ob args with
  | none => simp [hq, ca0X] at H
  | some q =>
    rw [hq] at H
    simp only [ca0X] at H
    split at H
    · rename_i h0
      have hr := reifiesN_eq hq
      cases hp : Φ f q.1 [] with
      | none => simp [hp, ca0R] at H
      | some z =>
        rw [hp] at H
        simp only [ca0R] at H
        have hc : reach ob 20 [] [] = some [] := rfl
        simp only [ca, hand, hr, Bool.false_eq_true, if_false, h0, hc, hp]
        exact H
    · cases H
theorem St.sameG {C : Ctx} {γ : Gh} {w : World} {tmps : Array Value} {sl : SL} {ob u : OB} (S : St C γ w tmps sl (u ++ ob)) (h : ∀ k, getO (u ++ ob) k = getO ob k) : St C γ w tmps sl ([] ++ ob) :=
  { S with
    obj := fun o x hx => S.obj o x ((h o).trans hx)
    dom := fun o i hi => by obtain ⟨x, hx⟩ := S.dom o i hi; exact ⟨x, (h o).symm.trans hx⟩
    unf := fun o x i b hx => S.unf o x i b ((h o).trans hx) }
theorem Runs.mono {P : Program} {ρ : Operand → Value} {o : Oper} {w : World} {Q Q' : Value → World → Prop} (H : Runs P ρ o w Q) (h : ∀ x w', Q x w' → Q' x w') : Runs P ρ o w Q' := by
  rcases H with ⟨x, w', h1, h2⟩ | ⟨w', h1, h2⟩ | ⟨f, args, w', h1, h2⟩
  · exact .inl ⟨x, w', h1, h _ _ h2⟩
  · exact .inr (.inl ⟨w', h1, h _ _ h2⟩)
  · exact .inr (.inr ⟨f, args, w', h1, h2.mono fun e w'' ⟨v, e1, e2⟩ => ⟨v, e1, h _ _ e2⟩⟩)
theorem opA_all (hE : E.fid = C.fid) (hG : E.glob = C.glob) (hro : True) (hrov : E.rov = false) (S : St C γ w a.tmps sl ob) {Φ : Sem'} (hΦ : Sound P C.fid C.glob Φ) {o : Oper} {d : Nat} {r : Up} (H : opA P E Φ sl ob d o.op = some r) :
    Runs P a.eval o w fun x w' => ∃ γ', RV C.fid γ' w'.heap x r.1 ∧ St C γ' w' a.tmps sl (r.2 ++ ob) := by
  by_cases hc : ∃ f args tys, o.op = .call { callee := .value f, args := args, argTypes := tys }
  · obtain ⟨f, args, tys, ho⟩ := hc
    rw [ho] at H
    cases f with
    | func f0 =>
      simp only [opA, opV, opP, opO] at H
      split at H
      · unfold cr at H
        cases hq : ca Φ ob d (E.raw f0) (E.fid f0) (evs E sl args.toList) with
        | none => rw [hq] at H; simp [crX] at H
        | some q =>
          rw [hq] at H
          simp only [crX] at H
          split at H
          · rename_i hcc
            injection H with H
            subst H
            have := call_ok hE hG S hΦ ho (.inl ⟨f0, rfl, hq⟩)
            exact this.mono fun x w' ⟨γ', g1, g2⟩ => ⟨γ', g1, g2.sameG hcc.1⟩
          · cases H
      split at H
      · exact call_ok hE hG S hΦ ho (.inl ⟨f0, rfl, H⟩)
      · exact call_ok hE hG S hΦ ho (.inl ⟨f0, rfl, ca0_ca H⟩)
    | tmp t => exact call_ok hE hG S hΦ ho (.inr (by simpa [opA, opV, opP, opO, hrov] using H))
    | const v => exact call_ok hE hG S hΦ ho (.inr (by simpa [opA, opV, opP, opO, hrov] using H))
    | global g => exact call_ok hE hG S hΦ ho (.inr (by simpa [opA, opV, opP, opO, hrov] using H))
  · exact opA_ok hE hG S (fun f args tys h => hc ⟨f, args, tys, h⟩) H
theorem put_st {γ' : Gh} {w' : World} {ob' : OB} (S : St C γ' w' a.tmps sl ob') {dst : Option Tmp} (hd : ∀ t, dst = some t → t < a.tmps.size) {x : Value} {v : PV} (hv : RV C.fid γ' w'.heap x v) : St C γ' w' (a.put dst x).tmps (putS dst v sl) ob' := by
  cases dst with
  | none => exact S
  | some t => exact S.put t (hd t rfl) hv
theorem step_ok (hE : E.fid = C.fid) (hG : E.glob = C.glob) (hro : True) (hrov : E.rov = false) (S : St C γ w a.tmps sl ob) {Φ : Sem'} (hΦ : Sound P C.fid C.glob Φ) {ops : Array Oper} {o : Oper} {y : SL × OB} (hd : ∀ t, o.dst = some t → t < a.tmps.size)
    (H : stepA P E Φ ops o (sl, ob) = some y) :
    (Region.wanted o (yielded ops a.tmps) = true ∧ Runs P a.eval o w fun x w' => ∃ γ', St C γ' w' (a.put o.dst x).tmps y.1 y.2) ∨ (Region.wanted o (yielded ops a.tmps) = false ∧ St C γ w (a.put o.dst undef).tmps y.1 y.2) := by
  unfold stepA at H
  split at H
  · cases H
  · rename_i hw
    cases hA : opA P E Φ sl ob (nid o.dst) o.op with
    | none => simp [hA] at H
    | some r =>
      simp only [hA, Option.map_some, Option.some.injEq] at H; subst H
      refine .inl ⟨want_ok S hw, ?_⟩
      have := opA_all hE hG hro hrov S hΦ hA
      rcases this with ⟨x, w', h1, γ', h2, h3⟩ | ⟨w', h1, γ', h2, h3⟩ | ⟨f, args, w', h1, h2⟩
      · exact .inl ⟨x, w', h1, γ', put_st h3 hd h2⟩
      · exact .inr (.inl ⟨w', h1, γ', put_st h3 hd h2⟩)
      · refine .inr (.inr ⟨f, args, w', h1, fun cs => ?_⟩)
        obtain ⟨e, w'', fr, ⟨v, he, γ', g1, g2⟩, rest⟩ := h2 cs
        exact ⟨e, w'', fr, ⟨v, he, γ', put_st g2 hd g1⟩, rest⟩
  · rename_i hw
    injection H with H; subst H
    exact .inr ⟨want_ok S hw, put_st S hd (RV_tup.2 ⟨#[], rfl, rfl, by simp only [RL]⟩)⟩
theorem put_size (a : Act) (dst : Option Tmp) (v : Value) : (a.put dst v).tmps.size = a.tmps.size := by
  cases dst with
  | none => rfl
  | some d => simp [Act.put]
end
end
end Go.Proofs.YtmhpkdcnhgmblaaDoor
