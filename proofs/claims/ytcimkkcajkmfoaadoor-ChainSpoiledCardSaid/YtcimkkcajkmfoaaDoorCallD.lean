/-
  A call, from the caller's side.
-/
import Derived.Test.YtcimkkcajkmfoaaDoorCallC
set_option linter.all false
namespace Go.Proofs.YtcimkkcajkmfoaaDoor
open Go

theorem frz_ok (ob : OB) : ∀ (bor : List Nat) (z : OB), frz ob bor = some z → FrzOf ob z ∧ (∀ o, o ∈ bor → ∃ x, getO z o = some x) ∧ ∀ o x, getO z o = some x → o ∈ bor
  | [], z, H => by simp only [frz, Option.some.injEq] at H; subst H; exact ⟨FrzOf.nil, (fun o h => by cases h), fun o x h => by simp [getO] at h⟩
  | o :: r, z, H => by
    simp only [frz] at H
    split at H
    · rename_i x y hx hy
      split at H
      · injection H with H; subst H
        obtain ⟨h1, h2, h3⟩ := frz_ok ob r y hy
        refine ⟨fun p x' hp => ?_, fun p hp => ?_, fun p x' hp => ?_⟩
        · simp only [getO] at hp
          split at hp
          · rename_i e; subst e; injection hp with hp; exact ⟨x, hx, hp.symm⟩
          · exact h1 p x' hp
        · simp only [getO]
          by_cases e : o = p
          · rw [if_pos e]; exact ⟨_, rfl⟩
          · rw [if_neg e]; exact h2 p ((List.mem_cons.1 hp).resolve_left (fun h => e h.symm))
        · simp only [getO] at hp
          split at hp
          · rename_i e; subst e; exact List.mem_cons_self ..
          · exact List.mem_cons_of_mem _ (h3 p x' hp)
      · cases H
    · cases H
mutual
theorem ren_none (f : Nat → Nat) : ∀ v, refs v = [] → ren f v = v
  | .b _, _ | .i _ _, _ | .s _, _ | .l _ _, _ | .ln _ _, _ | .e _, _ | .q .., _ | .np, _ | .blob .., _ | .nf, _ | .ub, _ | .un, _ => by simp only [ren]
  | .sl .., h | .bs .., h | .p .., h | .y .., h => by simp [refs] at h
  | .agg cs, h => by simp only [refs] at h; simp only [ren, renL_none f cs h]
  | .tup cs, h => by simp only [refs] at h; simp only [ren, renL_none f cs h]
  | .fn _ a b, h => by simp only [refs, List.append_eq_nil_iff] at h; simp only [ren, renL_none f a h.1, renL_none f b h.2]
theorem renL_none (f : Nat → Nat) : ∀ l, refsL l = [] → renL f l = l
  | [], _ => rfl
  | v :: r, h => by simp only [refsL, List.append_eq_nil_iff] at h; simp only [renL, ren_none f v h.1, renL_none f r h.2]
end
theorem back0_back {ob : OB} {d : Nat} {bor : List Nat} {r : PV} {out : List Obj'} {res : Up} (H : back0 ob d bor r out = some res) : back ob d bor [] r out = some res := by
  have hf : (fun k => if k < ([] : List Nat).length then nth [] k else d + (k - ([] : List Nat).length)) = (d + ·) := by funext k; simp
  unfold back
  simp only [hf, putOs]
  unfold back0 at H
  split at H
  · simp only [List.length_nil, Nat.not_lt_zero, if_false, newOs, List.all_nil, Bool.and_true, List.append_nil, List.nil_append] at H ⊢
    exact H
  · split at H
    · cases H
    · rename_i hl
      rw [if_neg hl]
      split at H
      · cases H
      · rename_i w hw
        simp only [hw, List.append_nil]
        exact H

section
variable {P : Program} {C : Ctx} {γ γ2 : Gh} {w w' : World} {act : Act} {sl : SL} {ob : OB}
theorem enter_gn (S : St C γ w act.tmps sl ob) {bor ids : List Nat} {b : Nat} (h : (C.enter γ w bor ids).gn b) : γ.gn b := by
  rcases h with h | ⟨o, i, _, hi, hb⟩ | h
  · exact h.2
  · exact blk_gn S hi hb
  · rw [S.gn]; exact S.gnew b (.inr (Nat.le_trans S.chg.size h))
theorem back_ok (S : St C γ w act.tmps sl ob) {bor ids : List Nat} (hnd : ids.Nodup) (hids : ∀ o, o ∈ ids → ∃ x, getO ob o = some x) {d : Nat} {v : Value} {r : PV} {out : List Obj'} {res : Up} (R : Ret (C.enter γ w bor ids) γ2 w' v r ids.length out)
    (H : back ob d bor ids r out = some res) : ∃ γ', RV C.fid γ' w'.heap v res.1 ∧ St C γ' w' act.tmps sl (res.2 ++ ob) := by
  unfold back at H
  simp only at H
  rw [show (fun k => if k < ids.length then nth ids k else d + (k - ids.length)) = backF ids d from rfl] at H
  split at H
  · cases H
  · rename_i u rest hu
    split at H
    · cases H
    · split at H
      · cases H
      · rename_i wn hn
        have hgn2 : ∀ b, γ2.gn b → γ.gn b := fun b h => enter_gn S (R.gn ▸ h)
        have himn : ∀ b, γ2.im b → (γ.im b ∨ blkOf γ bor b) ∨ blkOf γ ids b ∨ w.heap.size ≤ b := fun b h => R.imn b h
        split at H
        · rename_i hc
          injection H with H; subst H
          by_cases hb : bor = []
          · subst hb
            have hG : ∀ g b, γ2.q g b → γ2.im b ∧ (γ.im b ∨ blkOf γ ids b ∨ w.heap.size ≤ b) ∧ (g = true → γ.gn b) := fun g b h =>
              ⟨h.1, (himn b h.1).imp (fun h => h.resolve_right fun ⟨o, _, ho, _⟩ => by cases ho) id, fun e => hgn2 b (h.2 e)⟩
            exact back_core S S rfl rfl (fun b h => .inl h) hnd hids R rfl hG R.obj R.rv hu hn (newOs_ok _ _ _ _ _ hn).2.1
          · have hc : noExt r = true ∧ out.all noExtO = true := by
              have : bor.isEmpty = false := by cases bor with
                | nil => exact absurd rfl hb
                | cons x y => rfl
              simpa [this] using hc
            have hG : ∀ g b, γ2.good.q g b → γ2.im b ∧ (γ.im b ∨ blkOf γ ids b ∨ w.heap.size ≤ b) ∧ (g = true → γ.gn b) := fun g b h => by
              obtain ⟨⟨h1, h2⟩, _⟩ := h
              refine ⟨h1, ?_, fun _ => hgn2 b h2⟩
              rw [R.gn] at h2
              rcases h2 with h2 | h2 | h2
              · exact .inl h2.1
              · exact .inr (.inl h2)
              · exact .inr (.inr h2)
            refine back_core S S rfl rfl (fun b h => .inl h) hnd hids R (G := γ2.good) rfl hG (fun k x hx => ?_) (RAt_good r _ _ hc.1 R.rv) hu hn (newOs_ok _ _ _ _ _ hn).2.1
            obtain ⟨i, hi, h⟩ := R.obj k x hx
            exact ⟨i, hi, ORel_good (List.all_eq_true.1 hc.2 x (List.mem_of_getElem? hx)) h⟩
        · cases hz : frz ob bor with
          | none => simp [hz] at H
          | some z =>
            simp only [hz, Option.map_some, Option.some.injEq] at H; subst H
            obtain ⟨f1, f2, f3⟩ := frz_ok ob bor z hz
            obtain ⟨M, S1⟩ := S.frz f1
            have hbor : ∀ b, blkOf γ bor b → (γ.frz z).im b := fun b ⟨o, i, ho, hi, hb⟩ => by
              obtain ⟨x, hx⟩ := f2 o ho
              exact .inr ⟨o, x, i, hx, hi, hb⟩
            have hG : ∀ g b, γ2.q g b → γ2.im b ∧ ((γ.frz z).im b ∨ blkOf γ ids b ∨ w.heap.size ≤ b) ∧ (g = true → γ.gn b) := fun g b h =>
              ⟨h.1, (himn b h.1).imp (fun h => h.elim .inl (hbor b)) id, fun e => hgn2 b (h.2 e)⟩
            obtain ⟨n1, n2, n3⟩ := newOs_ok _ _ _ _ _ hn
            have hzb : ∀ b, (γ.frz z).im b → γ.im b ∨ blkOf γ bor b := fun b h => h.imp id fun ⟨o, x, i, hx, hi, hb⟩ => ⟨o, i, f3 o x hx, hi, hb⟩
            have := back_core S S1 rfl rfl hzb hnd hids R rfl hG R.obj R.rv hu hn (fun o h1 h2 => by
              rw [getO_app]
              cases hzo : getO z o with
              | none => exact n2 o h1 h2
              | some x =>
                obtain ⟨y, hy, _⟩ := f1 o x hzo
                rw [n2 o h1 h2] at hy; cases hy)
            simpa only [List.append_assoc] using this
theorem putOs_len (f : Nat → Nat) : ∀ (ids : List Nat) (l : List Obj') (y : OB × List Obj'), putOs f ids l = some y → ids.length ≤ l.length
  | [], _, _, _ => Nat.zero_le _
  | o :: r, x :: s, y, h => by
    simp only [putOs] at h
    cases hp : putOs f r s with
    | none => simp [hp] at h
    | some z => have := putOs_len f r s z hp; simp; exact this
  | _ :: _, [], _, h => by simp [putOs] at h
theorem back_len {ob : OB} {d : Nat} {bor ids : List Nat} {r : PV} {out : List Obj'} {res : Up} (h : back ob d bor ids r out = some res) : ids.length ≤ out.length := by
  unfold back at h
  simp only at h
  split at h
  · cases h
  · rename_i u rest hp
    exact putOs_len _ _ _ _ hp
/-- A call of a function. -/
theorem ca_ok {Φ : Sem'} (hΦ : Sound P C.fid C.glob Φ) (S : St C γ w act.tmps sl ob) {vals : Array Value} {args : List PV} (hR : RL C.fid γ w.heap vals 0 args) (hs : vals.size = args.length) {f0 : FuncId} {d : Nat} {raw : Bool} {res : Up}
    (H : ca Φ ob d raw (C.fid f0) args = some res) : Calls P f0 vals w fun e w' => (∃ v γ', e = .returned v ∧ RV C.fid γ' w'.heap v res.1 ∧ St C γ' w' act.tmps sl (res.2 ++ ob)) ∧ Bodied P f0 := by
  unfold ca at H
  split at H
  · cases H
  · rename_i as bor hh
    have hand' : ∀ ids, RL C.fid (γ.lend w bor ids) w.heap vals 0 as ∧ as.length = args.length := by
      intro ids
      unfold hand at hh
      split at hh
      · simp only [Option.some.injEq, Prod.mk.injEq] at hh; obtain ⟨rfl, rfl⟩ := hh
        exact ⟨RL_mono ((lend_lent γ w [] ids).mv _ _) hR, rfl⟩
      · exact reifies_ok S hh (lend_lent γ w bor ids) hR
    have go : ∀ ids os r out, reach ob 20 (refsL as) [] = some ids → ids.any (bor.contains ·) = false → getOs ob ids = some os → Φ (C.fid f0) (renL (idx ids) as) (os.map (renO (idx ids))) = some (r, out) → back ob d bor ids r out = some res →
        Calls P f0 vals w fun e w' => (∃ v γ', e = .returned v ∧ RV C.fid γ' w'.heap v res.1 ∧ St C γ' w' act.tmps sl (res.2 ++ ob)) ∧ Bodied P f0 := by
      intro ids os r out hre hdj hos hphi hback
      obtain ⟨h1, h2⟩ := hand' ids
      have henter := enter_ok S h1 (by rw [hs, h2]) (fun _ h => h) hre hdj hos
      obtain ⟨hnd, _, _, hcl⟩ := reach_ok ob 20 _ _ _ hre (by simp) (fun o h => by cases h)
      obtain ⟨hol, _⟩ := getOs_ok ob ids os hos
      have hlen := reach_len ob 20 _ _ _ hre
      simp only [List.length_nil] at hlen
      have hlo : ids.length ≤ out.length := back_len hback
      have hc := hΦ f0 _ _ r out hphi (by rw [List.length_map, hol]; exact hlo) (C.enter γ w bor ids) vals rfl rfl (by rw [length_renL, hs, h2]) (by rw [List.length_map, hol]; omega) (fun _ => Iff.rfl) henter
      intro cs
      obtain ⟨e, w', fr, ⟨v, γ2, he, hret, hfn⟩, rest⟩ := hc cs
      rw [List.length_map, hol] at hret
      obtain ⟨γ', g1, g2⟩ := back_ok S hnd (fun o ho => by obtain ⟨x, hx, _⟩ := hcl o ho; exact ⟨x, hx⟩) hret hback
      exact ⟨e, w', fr, ⟨⟨v, γ', he, g1, g2⟩, hfn⟩, rest⟩
    split at H
    · cases H
    · rename_i hre
      split at H
      · cases H
      · rename_i r out hphi
        have hnil : refsL as = [] := by
          obtain ⟨_, _, h3, _⟩ := reach_ok ob 20 _ _ _ hre (by simp) (fun o h => by cases h)
          cases hl : refsL as with
          | nil => rfl
          | cons o l => exact absurd (h3 o (by rw [hl]; simp)) (by simp)
        exact go [] [] r out hre rfl rfl (by rw [renL_none _ _ hnil]; exact hphi) (back0_back H)
    · rename_i ids hne hre
      split at H
      · cases H
      · rename_i hdj
        split at H
        · cases H
        · rename_i os hos
          split at H
          · cases H
          · rename_i r out hphi
            exact go ids os r out hre (by simpa using hdj) hos hphi H
end
end Go.Proofs.YtcimkkcajkmfoaaDoor
