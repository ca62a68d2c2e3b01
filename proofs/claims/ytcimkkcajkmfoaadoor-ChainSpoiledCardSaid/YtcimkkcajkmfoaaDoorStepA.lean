/-
  One operation of a region, as a step from state to state.
-/
import Derived.Test.YtcimkkcajkmfoaaDoorCallD
set_option linter.all false
namespace Go.Proofs.YtcimkkcajkmfoaaDoor
open Go

section
variable (P : Program) (E : Env)
/-- What an operation yields and updates. -/
noncomputable def opA (Φ : Sem') (sl : SL) (ob : OB) (d : Nat) (o : Op) : Option Up :=
  match opV P E sl o with
  | some v => some (v, [])
  | none => match opP P E sl ob o with
    | some x => x.map fun v => (v, [])
    | none => match opO P E Φ sl ob d o with
      | some x => x
      | none => none
/-- Is the operation carried out? -/
def wantA (ops : Array Oper) (o : Oper) (sl : SL) : Option Bool :=
  match o.guard with
  | none => some true
  | some (j, w) => match (ops[j]?).bind (·.dst) with
    | none => none
    | some t => match getS sl t with
      | .b c => some (c == w)
      | .tup [] => some false
      | _ => none
noncomputable def stepA (Φ : Sem') (ops : Array Oper) (o : Oper) (x : SL × OB) : Option (SL × OB) :=
  match wantA ops o x.1 with
  | none => none
  | some true => (opA P E Φ x.1 x.2 (nid o.dst) o.op).map fun r => (putS o.dst r.1 x.1, r.2 ++ x.2)
  | some false => some (putS o.dst (.tup []) x.1, x.2)
variable {P E}
theorem gd_some {g : PV} {w : Bool} {x : Option PV} {v : PV} (H : gd g w x = some v) : (g = .b w ∧ x = some v) ∨ (((∃ c, g = .b c ∧ (c == w) = false) ∨ g = .tup []) ∧ v = .tup []) := by
  unfold gd at H
  split at H
  · rename_i c
    split at H
    · rename_i e; subst e; exact .inl ⟨rfl, H⟩
    · rename_i e; injection H with H; exact .inr ⟨.inl ⟨c, rfl, by simpa using e⟩, H.symm⟩
  · injection H with H; exact .inr ⟨.inr rfl, H.symm⟩
  · cases H
theorem gdO_some {g : PV} {w : Bool} {x : Option Up} {v : Up} (H : gdO g w x = some v) : (g = .b w ∧ x = some v) ∨ (((∃ c, g = .b c ∧ (c == w) = false) ∨ g = .tup []) ∧ v = (.tup [], [])) := by
  unfold gdO at H
  split at H
  · rename_i c
    split at H
    · rename_i e; subst e; exact .inl ⟨rfl, H⟩
    · rename_i e; injection H with H; exact .inr ⟨.inl ⟨c, rfl, by simpa using e⟩, H.symm⟩
  · injection H with H; exact .inr ⟨.inr rfl, H.symm⟩
  · cases H
theorem bnd_some {α β : Type} {x : Option α} {f : α → Option β} {r : β} (H : bnd x f = some r) : ∃ a, x = some a ∧ f a = some r := by
  cases x with
  | none => simp [bnd] at H
  | some a => exact ⟨a, rfl, H⟩
theorem bndO_some {β : Type} {x : Option Up} {ob : OB} {f : PV → OB → Option β} {r : β} (H : bndO x ob f = some r) : ∃ a, x = some a ∧ f a.1 (a.2 ++ ob) = some r := by
  cases x with
  | none => simp [bndO] at H
  | some a => exact ⟨a, rfl, H⟩
theorem denI_step {Φ : Sem'} {ops : Array Oper} {o : Oper} {K : SL → OB → Option R} {sl : SL} {ob : OB} {r : R} (H : denI P E Φ ops o K sl ob = some r) :
    ∃ x, stepA P E Φ ops o (sl, ob) = some x ∧ K x.1 x.2 = some r := by
  unfold denI at H
  split at H
  · rename_i hg
    have hw : wantA ops o sl = some true := by simp [wantA, hg]
    split at H
    · rename_i v hv
      exact ⟨(putS o.dst v sl, ob), by simp [stepA, hw, opA, hv], H⟩
    · rename_i hv
      split at H
      · rename_i x hx
        obtain ⟨v, rfl, H⟩ := bnd_some H
        exact ⟨(putS o.dst v sl, ob), by simp [stepA, hw, opA, hv, hx], H⟩
      · rename_i hx
        split at H
        · rename_i x hy
          obtain ⟨u, rfl, H⟩ := bndO_some H
          exact ⟨(putS o.dst u.1 sl, u.2 ++ ob), by simp [stepA, hw, opA, hv, hx, hy], H⟩
        · cases H
  · rename_i j w hg
    split at H
    · cases H
    · rename_i t ht
      have hwant : getS sl t = .b w → wantA ops o sl = some true := fun h => by simp [wantA, hg, ht, h]
      have hskip : ((∃ c, getS sl t = .b c ∧ (c == w) = false) ∨ getS sl t = .tup []) → wantA ops o sl = some false := by
        rintro (⟨c, h, e⟩ | h)
        · simp only [wantA, hg, ht, h, e]
        · simp only [wantA, hg, ht, h]
      split at H
      · rename_i v hv
        obtain ⟨v', hgd, H2⟩ := bnd_some H
        rcases gd_some hgd with ⟨h1, h2⟩ | ⟨h1, h2⟩
        · injection h2 with h2; subst h2
          exact ⟨(putS o.dst v sl, ob), by simp [stepA, hwant h1, opA, hv], H2⟩
        · subst h2
          exact ⟨(putS o.dst (.tup []) sl, ob), by simp [stepA, hskip h1], H2⟩
      · rename_i hv
        split at H
        · rename_i x hx
          obtain ⟨v', hgd, H2⟩ := bnd_some H
          rcases gd_some hgd with ⟨h1, h2⟩ | ⟨h1, h2⟩
          · subst h2
            exact ⟨(putS o.dst v' sl, ob), by simp [stepA, hwant h1, opA, hv, hx], H2⟩
          · subst h2
            exact ⟨(putS o.dst (.tup []) sl, ob), by simp [stepA, hskip h1], H2⟩
        · rename_i hx
          split at H
          · rename_i x hy
            obtain ⟨u, hgd, H2⟩ := bndO_some H
            rcases gdO_some hgd with ⟨h1, h2⟩ | ⟨h1, h2⟩
            · subst h2
              exact ⟨(putS o.dst u.1 sl, u.2 ++ ob), by simp [stepA, hwant h1, opA, hv, hx, hy], H2⟩
            · subst h2
              exact ⟨(putS o.dst (.tup []) sl, ob), by simp [stepA, hskip h1], by simpa using H2⟩
          · cases H
/-- A list of operations, one behind the other. -/
noncomputable def runA (P : Program) (E : Env) (Φ : Sem') (ops : Array Oper) : List Oper → SL × OB → Option (SL × OB)
  | [], x => some x
  | o :: r, x => match stepA P E Φ ops o x with
    | some y => runA P E Φ ops r y
    | none => none
theorem disK_some {tr : List (Nat × List PV)} {x : List PV} {k : Option R} {r : R} : ∀ {l : List Nat}, disK tr x l k = some r → k = some r ∧ ∀ i ∈ l, dis (look tr i) x = some ()
  | [], H => ⟨H, fun i h => by cases h⟩
  | i :: l, H => by
    simp only [disK] at H
    obtain ⟨u, h1, h2⟩ := bnd_some H
    obtain ⟨g1, g2⟩ := disK_some h2
    exact ⟨g1, fun j hj => by
      rcases List.mem_cons.1 hj with rfl | hj
      · exact h1
      · exact g2 j hj⟩
theorem denOps_run {Φ : Sem'} {ops : Array Oper} {pr : List (Nat × Nat)} {K : SL → OB → Option R} {r : R} : ∀ {l : List Oper} {j : Nat} {tr : List (Nat × List PV)} {sl : SL} {ob : OB}, denOps P E Φ ops pr K j tr l sl ob = some r →
    ∃ x, runA P E Φ ops l (sl, ob) = some x ∧ K x.1 x.2 = some r
  | [], j, tr, sl, ob, H => ⟨(sl, ob), rfl, H⟩
  | o :: l, j, tr, sl, ob, H => by
    simp only [denOps] at H
    obtain ⟨H, _⟩ := disK_some H
    obtain ⟨x, h1, h2⟩ := denI_step H
    obtain ⟨y, h3, h4⟩ := denOps_run h2
    exact ⟨y, by simp only [runA, h1]; exact h3, h4⟩
end
end Go.Proofs.YtcimkkcajkmfoaaDoor
