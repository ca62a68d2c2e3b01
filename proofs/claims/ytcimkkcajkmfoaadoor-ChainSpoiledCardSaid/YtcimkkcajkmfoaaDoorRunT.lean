/-
  Regions' runs, in a loop's round too, with whatever is kept beside a call's state.
-/
import Derived.Test.YtcimkkcajkmfoaaDoorDrawC
import Derived.Test.YtcimkkcajkmfoaaDoorReb
import Derived.RangeFuncIn
import Derived.RangeFuncSeq
import Derived.RangeFuncOwn
import Derived.RangeFuncCalls
set_option linter.all false
namespace Go.Proofs.YtcimkkcajkmfoaaDoor
open Go

def exitOf : Out → Exit
  | .norm => .normal
  | .exit id => .exit id
  | .goto l => .goto l
  | .ret => .ret
/-- No fence but a loop's round. -/
def Wd (F : Fence) : Prop := F = Fence.wide ∨ ∃ l, F = Fence.wide.inRound l
theorem Wd.fn {F : Fence} (h : Wd F) (f : FuncId) : F.fn f := by
  rcases h with rfl | ⟨l, rfl⟩ <;> exact trivial
theorem Wd.depth {F : Fence} (h : Wd F) : ¬ F.depth.isSome = true := by
  rcases h with rfl | ⟨l, rfl⟩ <;> simp [Fence.wide]
theorem Wd.calls {F : Fence} (h : Wd F) {n : Nat} {P : Program} {f : FuncId} {args : Array Value} {w : World} {R : Ending → World → Prop} (hc : Calls P f args w R) : CallsIn F n P f args w R := by
  rcases h with rfl | ⟨l, rfl⟩
  · exact callsIn_wide.2 hc
  · exact CallsIn.inRound l (callsIn_wide.2 hc)
/-- What is kept of a call: its surroundings as they are by now, and T. -/
abbrev KeepT := Ctx → List Deferred → R → SL → Prop
def Inv (C : Ctx) (T : KeepT) (r : R) (γ : Gh) (w : World) (a : Act) (sl : SL) (ob : OB) : Prop :=
  ∃ C', C'.fid = C.fid ∧ C'.glob = C.glob ∧ T C' a.defers r sl ∧ St C' γ w a.tmps sl ob
/-- Where code is left: what is behind it answers. -/
def Post (C : Ctx) (T : KeepT) (n : Nat) (K : Kont) : Exit → Act → World → Prop := fun e a w =>
  a.tmps.size = n ∧ ∃ o sl ob γ r, exitOf o = e ∧ K o sl ob = some r ∧ Inv C T r γ w a sl ob
/-- What T tells of the slot of a loop holds of other slots. -/
def SlotOK (yp : Bool) (T : KeepT) : Prop := ∀ C' ds r sl sl', (yp = true → ∀ n m, getS sl' tslot = .y 1 n m → getS sl tslot = .y 1 n m) → T C' ds r sl → T C' ds r sl'
section
variable {P : Program} {E : Env} {C : Ctx} {F : Fence}
theorem runs_wpInF (hF : Wd F) {n : Nat} {o : Oper} {a : Act} {w : World} {Post : Value → World → Prop} {next : Act → World → Prop} {Q : Exit → Act → World → Prop} (hnd : ∀ c, o.op ≠ .defer c) (H : Runs P a.eval o w Post) (hn : ∀ x w', Post x w' → next (a.put o.dst x) w') : o.wpIn F n P a w next Q := by
  refine ⟨fun f _ => hF.fn f, ?_⟩
  have hs : o.semAt F.round a.eval = execOp a.eval o := Oper.semAt_eq _ _ _ hnd
  rw [hs]
  rcases H with ⟨x, w', h1, h2⟩ | ⟨w', h1, h2⟩ | ⟨f, args, w', h1, h2⟩
  · rw [h1]; exact hn _ _ h2
  · rw [h1]; exact hn _ _ h2
  · rw [h1]
    refine ⟨fun h => absurd h hF.depth, ?_⟩
    refine CallsIn.mono (hF.calls h2) ?_
    rintro e w'' ⟨v, rfl, hp⟩
    exact hn _ _ hp
theorem stepA_slot {Φ : Sem'} {ops : Array Oper} {o : Oper} {x y : SL × OB} (hd : o.dst ≠ some tslot) (H : stepA P E Φ ops o x = some y) : getS y.1 tslot = getS x.1 tslot := by
  have key : ∀ v, getS (putS o.dst v x.1) tslot = getS x.1 tslot := by
    intro v
    cases h : o.dst with
    | none => rfl
    | some t => simp only [putS, getS_cons]; rw [if_neg (fun e => hd (by rw [h, e]))]
  unfold stepA at H
  split at H
  · cases H
  · cases hA : opA P E Φ x.1 x.2 (nid o.dst) o.op with
    | none => simp [hA] at H
    | some r => simp only [hA, Option.map_some, Option.some.injEq] at H; subst H; exact key _
  · injection H with H; subst H; exact key _
theorem no_defer {Φ : Sem'} {sl : SL} {ob : OB} {d : Nat} {o : Op} {r : Up} (H : opA P E Φ sl ob d o = some r) : ∀ c, o ≠ .defer c := by
  rintro c rfl
  simp [opA, opV, opP, opO] at H
/-- One operation. -/
theorem op_wpInF (hF : Wd F) {T : KeepT} (hT : SlotOK E.yp T) (hE : E.fid = C.fid) (hG : E.glob = C.glob) (hro : ∀ f, E.ro f = false) (hrov : E.rov = false) {Φ : Sem'} (hΦ : Sound P C.fid C.glob Φ) {ops : Array Oper} {o : Oper} {N n : Nat} (hd : ∀ t, o.dst = some t → t < N ∧ (E.yp = true → t < tslot)) {r : R} {γ : Gh} {w : World} {a : Act} {x y : SL × OB}
    (hs : a.tmps.size = N) (I : Inv C T r γ w a x.1 x.2) (H : stepA P E Φ ops o x = some y) {next : Act → World → Prop} {Q : Exit → Act → World → Prop} (hn : ∀ a' γ' w', a'.tmps.size = N → Inv C T r γ' w' a' y.1 y.2 → next a' w') :
    if Region.wanted o (yielded ops a.tmps) = true then o.wpIn F n P a w next Q else next (a.put o.dst undef) w := by
  obtain ⟨C', hf, hg, hTT, S⟩ := I
  have hd' : ∀ t, o.dst = some t → t < a.tmps.size := fun t ht => by rw [hs]; exact (hd t ht).1
  have hT' : T C' a.defers r y.1 := by
    refine hT _ _ _ _ _ (fun hy n m h => ?_) hTT
    rw [← stepA_slot (fun e => Nat.lt_irrefl _ ((hd _ e).2 hy)) H]; exact h
  rcases step_ok (by rw [hE, hf]) (by rw [hG, hg]) hro hrov S (by rw [hf, hg]; exact hΦ) hd' H with ⟨h1, h2⟩ | ⟨h1, h2⟩
  · rw [if_pos h1]
    have hnd : ∀ c, o.op ≠ .defer c := by
      unfold stepA at H
      split at H
      · cases H
      · cases hA : opA P E Φ x.1 x.2 (nid o.dst) o.op with
        | none => simp [hA] at H
        | some r => exact no_defer hA
      · rename_i hw
        rw [want_ok S hw] at h1; cases h1
    refine runs_wpInF hF hnd h2 ?_
    rintro v w' ⟨γ', S'⟩
    exact hn _ γ' w' (by rw [put_size]; exact hs) ⟨C', hf, hg, by cases o.dst <;> exact hT', S'⟩
  · rw [if_neg (by rw [h1]; simp)]
    exact hn _ γ w (by rw [put_size]; exact hs) ⟨C', hf, hg, by cases o.dst <;> exact hT', h2⟩
theorem run_wpInF (hF : Wd F) {T : KeepT} (hT : SlotOK E.yp T) {Q : Exit → Act → World → Prop} {n N : Nat} (hE : E.fid = C.fid) (hG : E.glob = C.glob) (hro : ∀ f, E.ro f = false) (hrov : E.rov = false) {Φ : Sem'} (hΦ : Sound P C.fid C.glob Φ) (ops : Array Oper) (hd : ∀ o ∈ ops.toList, ∀ t, o.dst = some t → t < N ∧ (E.yp = true → t < tslot)) {r : R} :
    ∀ (l : List Nat) (os : List Oper) (a : Act) (γ : Gh) (w : World) (x y : SL × OB), l.map (ops[·]?) = os.map some → a.tmps.size = N → Inv C T r γ w a x.1 x.2 → runA P E Φ ops os x = some y →
      (∀ a' γ' w', a'.tmps.size = N → Inv C T r γ' w' a' y.1 y.2 → Q .normal a' w') → wpOpsIn F n P ops Q l a w
  | [], os, a, γ, w, x, y, hl, hs, I, H, hQ => by
    cases os with
    | nil => simp only [runA, Option.some.injEq] at H; subst H; exact hQ a γ w hs I
    | cons o r => simp at hl
  | i :: l, os, a, γ, w, x, y, hl, hs, I, H, hQ => by
    cases os with
    | nil => simp at hl
    | cons o rest =>
      simp only [List.map_cons, List.cons.injEq] at hl
      obtain ⟨hi, hl⟩ := hl
      simp only [runA] at H
      split at H
      · rename_i z hz
        have hmem : o ∈ ops.toList := by
          rw [Array.mem_toList_iff]; exact Array.mem_of_getElem? hi
        simp only [wpOpsIn, hi]
        have := op_wpInF (n := n) hF hT hE hG hro hrov hΦ (hd o hmem) hs I hz (next := fun a w => wpOpsIn F n P ops Q l a w) (Q := Q) (fun a' γ' w' h1 h2 => run_wpInF hF hT hE hG hro hrov hΦ ops hd l rest a' γ' w' z y hl h1 h2 H hQ)
        split
        · rename_i h1; rw [if_pos h1] at this; exact this
        · rename_i h1; rw [if_neg h1] at this; exact ⟨fun f _ => hF.fn f, this⟩
      · cases H
end
end Go.Proofs.YtcimkkcajkmfoaaDoor
