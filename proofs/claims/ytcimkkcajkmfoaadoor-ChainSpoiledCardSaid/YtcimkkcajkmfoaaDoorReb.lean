/-
  A call's surroundings laid anew in its midst: what was the call's own stays; what lies elsewhere may have turned meanwhile.
-/
import Derived.Test.YtcimkkcajkmfoaaDoorHeadB
set_option linter.all false
namespace Go.Proofs.YtcimkkcajkmfoaaDoor
open Go

/-- The blocks of a call's objects. -/
def ownB (γ : Gh) (b : Nat) : Prop := ∃ o i, γ.mu o = some i ∧ i.blk = some b
/-- The surroundings from the world w on: only what the call has by then may be written. -/
def Ctx.re (C : Ctx) (γ : Gh) (w : World) (kp : Nat → Prop) : Ctx := { C with w0 := w, A := ownB γ, g0 := γ, kp := kp }
/-- C' goes on from C. -/
structure Ext (C C' : Ctx) : Prop where
  fid : C'.fid = C.fid
  glob : C'.glob = C.glob
  gn : C'.gn = C.gn
  kp : ∀ k, C.kp k → C'.kp k
  chg : Chg (fun b => C.A b ∨ C.w0.heap.size ≤ b) C.w0 C'.w0
  A : ∀ b, C'.A b → C.A b ∨ C.w0.heap.size ≤ b
  kept : ∀ k i, C.kp k → C.g0.mu k = some i → ∃ i', C'.g0.mu k = some i' ∧ (i' = i ∨ i.ver < i'.ver)
  imk : ∀ b, C.g0.im b → C'.g0.im b ∧ C'.w0.heap[b]? = C.w0.heap[b]?
  imn : ∀ b, C'.g0.im b → C.g0.im b ∨ (C.A b ∨ C.w0.heap.size ≤ b)
  place : ∀ o j b, o < 64 → C'.g0.mu o = some j → j.blk = some b → (∃ j, C.g0.mu o = some j ∧ j.blk = some b) ∨ C.N b
  N : C'.N = C.N
  gnew : ∀ b, C.A b ∨ C.w0.heap.size ≤ b → C.gn b
  fresh : ∀ b, C.w0.heap.size ≤ b → C.N b
theorem Ext.refl' {C : Ctx} {γ : Gh} {w : World} {tmps : Array Value} {sl : SL} {ob : OB} (S : St C γ w tmps sl ob) : Ext C C :=
  ⟨rfl, rfl, rfl, fun _ h => h, Chg.refl _ _, fun _ h => .inl h, fun _ i _ h => ⟨i, h, .inl rfl⟩, fun _ h => ⟨h, rfl⟩, fun _ h => .inl h, fun _ j _ _ h hb => .inl ⟨j, h, hb⟩, rfl, S.gnew, S.fresh⟩
section
variable {C C' : Ctx} {γ : Gh} {w w' : World} {tmps : Array Value} {sl : SL} {ob : OB}
theorem Ext.new (X : Ext C C') {b : Nat} (h : C'.A b ∨ C'.w0.heap.size ≤ b) : C.A b ∨ C.w0.heap.size ≤ b := by
  rcases h with h | h
  · exact X.A b h
  · exact .inr (Nat.le_trans X.chg.size h)
/-- What holds in the later surroundings holds in the first ones. -/
theorem St.unext (X : Ext C C') (S : St C' γ w tmps sl ob) : St C γ w tmps sl ob := by
  constructor
  · rw [← X.fid]; exact S.slot
  · rw [← X.fid]; exact S.obj
  · exact S.dom
  · exact S.inj
  · exact S.unf
  · exact fun o i b hi hb => X.new (S.own o i b hi hb)
  · exact S.lt
  · rw [← X.glob]; exact S.glob
  · exact X.chg.trans ⟨S.chg.os, S.chg.tape, S.chg.output, S.chg.size, fun k hk hA => S.chg.block k hk (fun h => hA (X.new h))⟩
  · rw [← X.gn]; exact S.gn
  · exact X.gnew
  · intro k i hk hi
    obtain ⟨i1, h1, h2⟩ := X.kept k i hk hi
    obtain ⟨i2, h3, h4⟩ := S.kept k i1 (X.kp k hk) h1
    refine ⟨i2, h3, ?_⟩
    rcases h2 with rfl | h2
    · exact h4
    · rcases h4 with rfl | h4
      · exact .inr h2
      · exact .inr (by omega)
  · intro b hb
    obtain ⟨h1, h2⟩ := X.imk b hb
    obtain ⟨h3, h4⟩ := S.imk b h1
    exact ⟨h3, h4.trans h2⟩
  · intro b hb
    rcases S.imn b hb with h | h
    · exact X.imn b h
    · exact .inr (X.new h)
  · intro o i b hi hb
    rcases S.place o i b hi hb with ⟨h1, j, h2, h3⟩ | h
    · rcases X.place o j b h1 h2 h3 with h | h
      · exact .inl ⟨h1, h⟩
      · exact .inr h
    · exact .inr (X.N ▸ h)
  · exact X.fresh
/-- Elsewhere the world has turned: the surroundings from there on. -/
theorem St.rebase (S : St C γ w tmps sl ob) (kp : Nat → Prop) {Q : Nat → Prop} (hc : Chg Q w w') (hq : ∀ b, b < w.heap.size → Q b → ¬ γ.im b ∧ ¬ ownB γ b) : St (C.re γ w' kp) γ w' tmps sl ob := by
  have him : ∀ b, γ.im b → w'.heap[b]? = w.heap[b]? := fun b hb => hc.block b (S.lt b hb) (fun h => (hq b (S.lt b hb) h).1 hb)
  have how : ∀ o i b, γ.mu o = some i → i.blk = some b → w'.heap[b]? = w.heap[b]? := fun o i b hi hb => hc.block b (blk_lt S hi hb) (fun h => (hq b (blk_lt S hi hb) h).2 ⟨o, i, hi, hb⟩)
  have mv : ∀ T, Mv γ γ w.heap w'.heap T (fun o => o) := fun T => ⟨fun o _ i hi => ⟨i, hi, .inl rfl⟩, fun g b hb => ⟨hb, him b hb.1⟩⟩
  constructor
  · exact fun t => RAt_mono (mv _) (S.slot t)
  · intro o x hx
    obtain ⟨i, h1, h2⟩ := S.obj o x hx
    exact ⟨i, h1, ORel_mono (mv _) (fun b hb => how o i b h1 hb) h2⟩
  · exact S.dom
  · exact S.inj
  · exact S.unf
  · exact fun o i b hi hb => .inl ⟨o, i, hi, hb⟩
  · exact fun b hb => Nat.lt_of_lt_of_le (S.lt b hb) hc.size
  · intro g xs hg
    obtain ⟨h1, cs, h2, h3⟩ := S.glob g xs hg
    exact ⟨h1, cs, h2.keep (him g h1.1), PCells_mono (fun b hb => ⟨hb, him b hb.1⟩) _ _ _ h3⟩
  · exact Chg.refl _ _
  · exact S.gn
  · rintro b (⟨o, i, hi, hb⟩ | h)
    · exact S.gnew b (S.own o i b hi hb)
    · exact S.gnew b (.inr (Nat.le_trans S.chg.size (Nat.le_trans hc.size h)))
  · exact fun k i _ hi => ⟨i, hi, .inl rfl⟩
  · exact fun b hb => ⟨hb, rfl⟩
  · exact fun b hb => .inl hb
  · intro o i b hi hb
    rcases S.place o i b hi hb with ⟨h1, _⟩ | h
    · exact .inl ⟨h1, i, hi, hb⟩
    · exact .inr h
  · exact fun b hb => S.fresh b (Nat.le_trans S.chg.size (Nat.le_trans hc.size hb))
theorem Ext.rebase (X : Ext C C') (S : St C' γ w tmps sl ob) {kp : Nat → Prop} (hkp : ∀ k, C.kp k → kp k) {Q : Nat → Prop} (hc : Chg Q w w') (hQ : ∀ b, b < C.w0.heap.size → Q b → C.A b) (hq : ∀ b, b < w.heap.size → Q b → ¬ γ.im b ∧ ¬ ownB γ b) : Ext C (C'.re γ w' kp) := by
  have S0 := S.unext X
  refine ⟨X.fid, X.glob, X.gn, hkp, ?_, ?_, ?_, ?_, ?_, ?_, X.N, X.gnew, X.fresh⟩
  · refine S0.chg.trans ⟨hc.os, hc.tape, hc.output, hc.size, fun k hk hA => hc.block k hk (fun h => hA ?_)⟩
    by_cases hlt : k < C.w0.heap.size
    · exact .inl (hQ k hlt h)
    · exact .inr (by omega)
  · rintro b ⟨o, i, hi, hb⟩
    exact S0.own o i b hi hb
  · exact fun k i hk hi => S0.kept k i hk hi
  · intro b hb
    obtain ⟨h1, h2⟩ := S0.imk b hb
    exact ⟨h1, (hc.block b (S.lt b h1) (fun h => (hq b (S.lt b h1) h).1 h1)).trans h2⟩
  · exact fun b hb => S0.imn b hb
  · intro o j b ho hj hb
    rcases S0.place o j b hj hb with ⟨_, h⟩ | h
    · exact .inl h
    · exact .inr h
/-- Nothing that the call leans on has turned. -/
theorem St.same (S : St C γ w tmps sl ob) {Q : Nat → Prop} (hc : Chg Q w w') (hQ : ∀ b, b < C.w0.heap.size → Q b → C.A b) (hq : ∀ b, b < w.heap.size → Q b → ¬ γ.im b ∧ ¬ ownB γ b) : St C γ w' tmps sl ob :=
  (S.rebase C.kp hc hq).unext ((Ext.refl' S).rebase S (fun _ h => h) hc hQ hq)
/-- More memory that nobody writes. -/
theorem St.moreIm (S : St C γ w tmps sl ob) {I : Nat → Prop} (h1 : ∀ b, I b → b < w.heap.size) (h2 : ∀ o x i b, getO ob o = some x → x.fro = false → γ.mu o = some i → i.blk = some b → ¬ I b) (h3 : ∀ b, I b → C.g0.im b ∨ (C.A b ∨ C.w0.heap.size ≤ b)) : St C { γ with im := fun b => γ.im b ∨ I b } w tmps sl ob := by
  have mv : ∀ T, Mv γ { γ with im := fun b => γ.im b ∨ I b } w.heap w.heap T (fun o => o) := fun T => ⟨fun o _ i hi => ⟨i, hi, .inl rfl⟩, fun g b hb => ⟨⟨.inl hb.1, hb.2⟩, rfl⟩⟩
  constructor
  · exact fun t => RAt_mono (mv _) (S.slot t)
  · intro o x hx
    obtain ⟨i, g1, g2⟩ := S.obj o x hx
    exact ⟨i, g1, ORel_mono (mv _) (fun _ _ => rfl) g2⟩
  · exact S.dom
  · exact S.inj
  · rintro o x i b hx hf hi hb (h | h)
    · exact S.unf o x i b hx hf hi hb h
    · exact h2 o x i b hx hf hi hb h
  · exact S.own
  · rintro b (h | h)
    · exact S.lt b h
    · exact h1 b h
  · intro g xs hg
    obtain ⟨g1, cs, g2, g3⟩ := S.glob g xs hg
    exact ⟨⟨.inl g1.1, g1.2⟩, cs, g2, PCells_mono (fun b hb => ⟨⟨.inl hb.1, hb.2⟩, rfl⟩) _ _ _ g3⟩
  · exact S.chg
  · exact S.gn
  · exact S.gnew
  · exact S.kept
  · intro b hb
    exact ⟨.inl (S.imk b hb).1, (S.imk b hb).2⟩
  · rintro b (h | h)
    · exact S.imn b h
    · exact h3 b h
  · exact S.place
  · exact S.fresh
/-- Other slots. -/
theorem St.slots (S : St C γ w tmps sl ob) {tmps' : Array Value} {sl' : SL} (h : ∀ t, RV C.fid γ w.heap (tmps'.getD t undef) (getS sl' t)) : St C γ w tmps' sl' ob :=
  { S with slot := h }
end
end Go.Proofs.YtcimkkcajkmfoaaDoor
