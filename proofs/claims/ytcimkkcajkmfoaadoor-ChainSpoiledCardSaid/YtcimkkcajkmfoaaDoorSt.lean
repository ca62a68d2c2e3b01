/-
  A call's state: what an operation that changes it has to show.
-/
import Derived.Test.YtcimkkcajkmfoaaDoorRel
set_option linter.all false
namespace Go.Proofs.YtcimkkcajkmfoaaDoor
open Go

theorem getO_app (u ob : OB) (o : Nat) : getO (u ++ ob) o = (match getO u o with | some x => some x | none => getO ob o) := by
  induction u with
  | nil => simp [getO]
  | cons a r ih =>
    obtain ⟨k, v⟩ := a
    simp only [List.cons_append, getO]
    split
    · rfl
    · exact ih
theorem getO_app_some {u ob : OB} {o : Nat} {x : Obj'} (h : getO u o = some x) : getO (u ++ ob) o = some x := by rw [getO_app, h]
theorem getO_app_none {u ob : OB} {o : Nat} (h : getO u o = none) : getO (u ++ ob) o = getO ob o := by rw [getO_app, h]
theorem getO_cons (k : Nat) (v : Obj') (ob : OB) (o : Nat) : getO ((k, v) :: ob) o = if k = o then some v else getO ob o := rfl

/-! ### The same cells elsewhere -/
section
variable {h : Array Obj} {q : Nat → Prop} {cs cs' : Array Value}
theorem blobR_at {off off' : Nat} {xs : List PV} (H : ∀ i v, i < xs.length → cs[off + i]? = some v → cs'[off' + i]? = some v) (B : blobR cs off xs) : blobR cs' off' xs := by
  intro i x hx
  obtain ⟨v, hv, hs⟩ := B i x hx
  exact ⟨v, H i v (by have := List.getElem?_eq_some_iff.1 hx; exact this.1) hv, hs⟩
theorem PAt_at {v : PV} {off off' : Nat} (H : ∀ i x, i < wd v → cs[off + i]? = some x → cs'[off' + i]? = some x) (R : PAt h q cs off v) : PAt h q cs' off' v := by
  have H0 : wd v = 1 → ∀ x, cs[off]? = some x → cs'[off']? = some x := fun hw x hx => H 0 x (by omega) hx
  cases v <;> simp only [PAt] at R ⊢
  case b => exact H0 rfl _ R
  case i => exact H0 rfl _ R
  case s => obtain ⟨s, h1, h2⟩ := R; exact ⟨s, H0 rfl _ h1, h2⟩
  case blob n xs => exact ⟨R.1, blobR_at (fun i v hi => H i v (by simp only [wd]; omega)) R.2⟩
  case l g xs => obtain ⟨a, c, h1, h2⟩ := R; exact ⟨a, c, H0 rfl _ h1, h2⟩
theorem PCells_at : ∀ {l : List PV} {off off' : Nat}, (∀ i x, i < wds l → cs[off + i]? = some x → cs'[off' + i]? = some x) → PCells h q cs off l → PCells h q cs' off' l
  | [], _, _, _, _ => by simp only [PCells]
  | v :: r, off, off', H, R => by
    simp only [PCells] at R ⊢
    simp only [wds] at H
    exact ⟨PAt_at (fun i x hi => H i x (by omega)) R.1, PCells_at (fun i x hi hx => by
      have := H (wd v + i) x (by omega) (by rw [← Nat.add_assoc]; exact hx)
      rwa [← Nat.add_assoc] at this) R.2⟩
variable {fid : Nat → Nat} {γ : Gh}
theorem RAt_at {v : PV} {off off' : Nat} (H : ∀ i x, i < wd v → cs[off + i]? = some x → cs'[off' + i]? = some x) (R : RAt fid γ h cs off v) : RAt fid γ h cs' off' v := by
  have H0 : wd v = 1 → ∀ x, cs[off]? = some x → cs'[off']? = some x := fun hw x hx => H 0 x (by omega) hx
  cases v <;> simp only [RAt] at R ⊢
  case b => exact H0 rfl _ R
  case i => exact H0 rfl _ R
  case s => obtain ⟨s, h1, h2⟩ := R; exact ⟨s, H0 rfl _ h1, h2⟩
  case blob n xs => exact ⟨R.1, blobR_at (fun i v hi => H i v (by simp only [wd]; omega)) R.2⟩
  case l g xs => exact PAt_at H R
  case ln g xs => obtain ⟨R, a, n, c, e⟩ := R; exact ⟨PAt_at (v := .l g xs) H R, a, n, c, H0 rfl _ e⟩
  case e nil => obtain ⟨a, h1, h2⟩ := R; exact ⟨a, H0 rfl _ h1, h2⟩
  case sl o ver lo n => obtain ⟨i, h1, h2, a, c, e, h3⟩ := R; exact ⟨i, h1, h2, a, c, H0 rfl _ e, h3⟩
  case bs o o' lo n => obtain ⟨i, h1, a, c, e, h2⟩ := R; exact ⟨i, h1, a, c, H0 rfl _ e, h2⟩
  case p o ver j o' bi => obtain ⟨i, h1, h2, a, e, h3⟩ := R; exact ⟨i, h1, h2, a, H0 rfl _ e, h3⟩
  case q g xs bi => obtain ⟨b, o, cs1, e, h1⟩ := R; exact ⟨b, o, cs1, H0 rfl _ e, h1⟩
  case np => exact H0 rfl _ R
  case agg xs => obtain ⟨arr, e, h1⟩ := R; exact ⟨arr, H0 rfl _ e, h1⟩
  case tup xs => obtain ⟨arr, e, h1⟩ := R; exact ⟨arr, H0 rfl _ e, h1⟩
  case fn k a b => obtain ⟨f0, a1, a2, e, h1⟩ := R; exact ⟨f0, a1, a2, H0 rfl _ e, h1⟩
  case nf => exact H0 rfl _ R
  case y o n m => obtain ⟨i, h1, h2, h3⟩ := R; exact ⟨i, h1, h2, h3.map (H0 rfl) (fun e => ⟨e, rfl⟩)⟩
  case ub => obtain ⟨x, e⟩ := R; exact ⟨x, H0 rfl _ e⟩
theorem RCells_at : ∀ {l : List PV} {off off' : Nat}, (∀ i x, i < wds l → cs[off + i]? = some x → cs'[off' + i]? = some x) → RCells fid γ h cs off l → RCells fid γ h cs' off' l
  | [], _, _, _, _ => by simp only [RCells]
  | v :: r, off, off', H, R => by
    simp only [RCells] at R ⊢
    simp only [wds] at H
    exact ⟨⟨R.1.1, RAt_at (fun i x hi => H i x (by omega)) R.1.2⟩, RCells_at (fun i x hi hx => by
      have := H (wd v + i) x (by omega) (by rw [← Nat.add_assoc]; exact hx)
      rwa [← Nat.add_assoc] at this) R.2⟩
theorem RV.at {x : Value} {v : PV} (R : RV fid γ h x v) {off : Nat} (e : cs[off]? = some x) : RAt fid γ h cs off v := by
  refine RAt_at ?_ R
  intro i y _ hy
  have : i = 0 := by
    rcases i with _ | i
    · rfl
    · simp at hy
  subst this
  simp at hy; subst hy; exact e
theorem RV.of {x : Value} {v : PV} {off : Nat} (e : cs[off]? = some x) (hw : wd v ≤ 1) (R : RAt fid γ h cs off v) : RV fid γ h x v := by
  refine RAt_at ?_ R
  intro i y hi hy
  have : i = 0 := by omega
  subst this
  simp at hy; rw [e] at hy; injection hy with hy; subst hy; simp
end

section
variable {C : Ctx} {γ γ' : Gh} {w w' : World} {tmps : Array Value} {sl : SL} {ob u : OB}

theorem getS_cons (k : Nat) (v : PV) (sl : SL) (t : Nat) : getS ((k, v) :: sl) t = if k = t then v else getS sl t := rfl

/-- A slot is written. -/
theorem St.put (S : St C γ w tmps sl ob) (d : Nat) (hd : d < tmps.size) {v : PV} {x : Value} (H : RV C.fid γ w.heap x v) : St C γ w (tmps.setIfInBounds d x) ((d, v) :: sl) ob := by
  refine { S with slot := ?_ }
  intro t
  rw [getS_cons]
  by_cases e : d = t
  · subst e
    rw [if_pos rfl]
    have : (tmps.setIfInBounds d x).getD d undef = x := by simp [Array.getD, hd]
    rw [this]; exact H
  · rw [if_neg e]
    have : (tmps.setIfInBounds d x).getD t undef = tmps.getD t undef := by
      simp only [Array.getD_eq_getD_getElem?, Array.getElem?_setIfInBounds_ne e]
    rw [this]; exact S.slot t

/-- What an operation does to memory and objects. -/
theorem St.change (S : St C γ w tmps sl ob)
    (hmu : ∀ o, getO u o = none → γ'.mu o = γ.mu o)
    (hver : ∀ o i, γ.mu o = some i → ∃ i', γ'.mu o = some i' ∧ (i' = i ∨ i.ver < i'.ver))
    (him : ∀ b, γ.im b → γ'.im b ∧ w'.heap[b]? = w.heap[b]?) (hgn : γ'.gn = γ.gn)
    (hob : ∀ o i b, getO u o = none → γ.mu o = some i → i.blk = some b → w'.heap[b]? = w.heap[b]? ∧ (γ'.im b → γ.im b))
    (hu : ∀ o x, getO u o = some x → ∃ i, γ'.mu o = some i ∧ ORel C.fid γ' w'.heap x i ∧ ∀ b, i.blk = some b →
      (C.A b ∨ C.w0.heap.size ≤ b) ∧ (x.fro = false → ¬ γ'.im b) ∧ (∀ o' i', γ'.mu o' = some i' → i'.blk = some b → o' = o) ∧ ((o < 64 ∧ ∃ j, C.g0.mu o = some j ∧ j.blk = some b) ∨ C.N b))
    (hlt : ∀ b, γ'.im b → b < w'.heap.size) (himn : ∀ b, γ'.im b → γ.im b ∨ (C.A b ∨ C.w0.heap.size ≤ b))
    (hchg : Chg (fun b => C.A b ∨ C.w0.heap.size ≤ b) w w') :
    Mv γ γ' w.heap w'.heap [] (fun o => o) ∧ (∀ S, Mv γ γ' w.heap w'.heap S (fun o => o)) ∧ St C γ' w' tmps sl (u ++ ob) := by
  have hq : ∀ g b, γ.q g b → γ'.q g b ∧ w'.heap[b]? = w.heap[b]? := fun g b hb => ⟨⟨(him b hb.1).1, fun hg => by rw [hgn]; exact hb.2 hg⟩, (him b hb.1).2⟩
  have M : ∀ S, Mv γ γ' w.heap w'.heap S (fun o => o) := fun S => ⟨fun o _ i hi => hver o i hi, hq⟩
  refine ⟨M _, M, ?_⟩
  constructor
  · exact fun t => RAt_mono (M _) (S.slot t)
  · intro o x hx
    rw [getO_app] at hx
    split at hx
    · rename_i y hy
      injection hx with hx; subst hx
      obtain ⟨i, h1, h2, _⟩ := hu o y hy
      exact ⟨i, h1, h2⟩
    · rename_i hn
      obtain ⟨i, h1, h2⟩ := S.obj o x hx
      exact ⟨i, by rw [hmu o hn]; exact h1, ORel_mono (M _) (fun b hb => (hob o i b hn h1 hb).1) h2⟩
  · intro o i hi
    cases hn : getO u o with
    | some x => exact ⟨x, getO_app_some hn⟩
    | none =>
      rw [hmu o hn] at hi
      obtain ⟨x, hx⟩ := S.dom o i hi
      exact ⟨x, by rw [getO_app_none hn]; exact hx⟩
  · intro o o' i i' b h1 h2 h3 h4
    cases hn : getO u o with
    | some x =>
      obtain ⟨j, e, _, H⟩ := hu o x hn
      rw [h1] at e; injection e with e; subst e
      exact ((H b h3).2.2.1 o' i' h2 h4).symm
    | none =>
      cases hn' : getO u o' with
      | some x =>
        obtain ⟨j, e, _, H⟩ := hu o' x hn'
        rw [h2] at e; injection e with e; subst e
        exact (H b h4).2.2.1 o i h1 h3
      | none =>
        rw [hmu o hn] at h1; rw [hmu o' hn'] at h2
        exact S.inj o o' i i' b h1 h2 h3 h4
  · intro o x i b hx hf hi hb
    rw [getO_app] at hx
    split at hx
    · rename_i y hy
      injection hx with hx; subst hx
      obtain ⟨j, e, _, H⟩ := hu o y hy
      rw [hi] at e; injection e with e; subst e
      exact (H b hb).2.1 hf
    · rename_i hn
      rw [hmu o hn] at hi
      exact fun hh => S.unf o x i b hx hf hi hb ((hob o i b hn hi hb).2 hh)
  · intro o i b hi hb
    cases hn : getO u o with
    | some x =>
      obtain ⟨j, e, _, H⟩ := hu o x hn
      rw [hi] at e; injection e with e; subst e
      exact (H b hb).1
    | none => rw [hmu o hn] at hi; exact S.own o i b hi hb
  · exact hlt
  · intro g xs hg
    obtain ⟨h1, cs, h2, h3⟩ := S.glob g xs hg
    exact ⟨(hq true g h1).1, cs, h2.keep (hq true g h1).2, PCells_mono (hq true) _ _ _ h3⟩
  · exact S.chg.trans hchg
  · rw [hgn]; exact S.gn
  · exact S.gnew
  · intro k i hk hi
    obtain ⟨i1, h1, h2⟩ := S.kept k i hk hi
    obtain ⟨i2, h3, h4⟩ := hver k i1 h1
    refine ⟨i2, h3, ?_⟩
    rcases h2 with rfl | h2
    · exact h4
    · rcases h4 with rfl | h4
      · exact .inr h2
      · exact .inr (by omega)
  · intro b hb
    obtain ⟨h1, h2⟩ := S.imk b hb
    exact ⟨(him b h1).1, (him b h1).2.trans h2⟩
  · intro b hb
    rcases himn b hb with h | h
    · exact S.imn b h
    · exact .inr h
  · intro o i b hi hb
    cases hn : getO u o with
    | some x =>
      obtain ⟨j, e, _, H⟩ := hu o x hn
      rw [hi] at e; injection e with e; subst e
      exact (H b hb).2.2.2
    | none => rw [hmu o hn] at hi; exact S.place o i b hi hb
  · exact S.fresh
end
end Go.Proofs.YtcimkkcajkmfoaaDoor
