/-
  A loop over a function: its rounds, and what is behind it.
-/
import Derived.Test.YtcimkkcajkmfoaaDoorIterS
set_option linter.all false
namespace Go.Proofs.YtcimkkcajkmfoaaDoor
open Go

/-- What functions hand on to a loop holds of the program's. -/
def SoundI (P : Program) (fid : Nat → Nat) (glob : Nat → Option (List PV)) (Φ : Sem') : Prop :=
  ∀ (f0 : FuncId) (as : List PV) (os : List Obj') (g : Bool) (xs : List (List PV)), Φ (fid f0) as os = some (.tup [.un, .l g xs], []) → 2 ≤ os.length →
    ∀ (C : Ctx) (args : Array Value), C.fid = fid → C.glob = glob → args.size = as.length → os.length ≤ 64 → (∀ k, C.kp k ↔ k < 64) → St C C.g0 C.w0 args (zipN 0 as) (zipN 0 os) →
    ∀ (l nn : Nat) (Z : Rnd P fid xs l nn) (CH PR : Nat → Prop), (∃ i, C.g0.mu 0 = some i ∧ i.ver = 0 ∧ i.w = l) → C.g0.mu 1 = some ⟨0, none, 0, 0⟩ → (∀ b, PR b → b < C.w0.heap.size ∧ ¬ C.A b) → (∀ b, CH b → PR b ∧ ¬ C.g0.im b) → (∀ b, C.g0.im b ∨ C.A b ∨ C.w0.heap.size ≤ b → Z.IM b) → Z.J [] CH PR C.w0 →
      CallsIn Fence.wide (nn + 1) P f0 args C.w0 (fun e w' => (∃ v, e = .returned v) ∧ ((∃ CH PR, Z.J xs CH PR w') ∨ ∃ CH PR, Z.Jx CH PR w')) ∧ Bodied P f0

section
variable {P : Program} {E : Env} {C : Ctx}
/-- What the loop's rounds may turn; what is to be left as it is. -/
def CHo (γ : Gh) (D l b : Nat) : Prop := (ownB γ b ∧ ¬ γ.im b) ∨ b = D ∨ b = l
def PRo (C : Ctx) (γ : Gh) (D l b : Nat) : Prop := ownB γ b ∨ b = D ∨ b = l ∨ γ.im b ∨ (b < C.w0.heap.size ∧ ¬ C.A b)
/-- A block of an object's is one of cells. -/
theorem own_cells {γ : Gh} {w : World} {tmps : Array Value} {sl : SL} {ob : OB} (S : St C γ w tmps sl ob) {b : Nat} (h : ownB γ b) : ∃ cs t fr, w.heap[b]? = some (.cells cs t fr) := by
  obtain ⟨o, i, h1, h2⟩ := h
  obtain ⟨x, hx⟩ := S.dom o i h1
  obtain ⟨i', h3, _, _, _, h4⟩ := S.obj o x hx
  rw [h1] at h3
  injection h3 with h3
  subst h3
  rw [h2] at h4
  obtain ⟨_, cs, ⟨t, fr, h5, _⟩, _⟩ := h4
  exact ⟨cs, t, fr, h5⟩
theorem Chg.put (w : World) (l : Nat) (o : Obj) : Chg (fun b => b = l) w (w.putObj l o) :=
  ⟨rfl, rfl, rfl, by simp, fun k _ hk => World.putObj_heap_other hk⟩
theorem Chg.allocs (w : World) (o : Obj) : Chg (fun _ => False) w (w.alloc o) :=
  ⟨rfl, rfl, rfl, by simp, fun k hk _ => by show (w.heap.push o)[k]? = _; rw [Array.getElem?_push, if_neg (Nat.ne_of_lt hk)]⟩
theorem Chg.weaken {A B : Nat → Prop} {w w' : World} (h : Chg A w w') (hAB : ∀ b, b < w.heap.size → A b → B b) : Chg B w w' :=
  ⟨h.os, h.tape, h.output, h.size, fun k hk hB => h.block k hk (fun hA => hB (hAB k hk hA))⟩
theorem Chg.trans' {A B : Nat → Prop} {w w' w'' : World} (h : Chg A w w') (k : Chg B w' w'') (hB : ∀ b, b < w.heap.size → B b → A b) : Chg A w w'' :=
  ⟨k.os.trans h.os, k.tape.trans h.tape, k.output.trans h.output, Nat.le_trans h.size k.size,
   fun i hi hA => (k.block i (Nat.lt_of_lt_of_le hi h.size) (fun hb => hA (hB i hi hb))).trans (h.block i hi hA)⟩
/-- What is handed on reads the same where the same memory may be read. -/
theorem okC_mono {fid : Nat → Nat} {γ γ' : Gh} {h h' : Array Obj} (hm : ∀ b, γ.im b → γ'.im b ∧ h'[b]? = h[b]?) {v : PV} (hv : okC v = true) {cs : Array Value} {off : Nat} (H : RAt fid γ h cs off v) : RAt fid γ' h' cs off v := by
  cases v <;> simp only [okC] at hv <;> first | (simpa only [RAt] using H) | (cases hv; done) | skip
  rename_i g xs
  cases g with
  | true => cases hv
  | false =>
    simp only [RAt] at H ⊢
    exact PAt_mono (fun b hb => ⟨⟨(hm b hb.1).1, fun h => by cases h⟩, (hm b hb.1).2⟩) _ _ _ H
theorem okT_mono {fid : Nat → Nat} {γ γ' : Gh} {h h' : Array Obj} (hm : ∀ b, γ.im b → γ'.im b ∧ h'[b]? = h[b]?) {v : PV} (hv : okT v = true) {x : Value} (H : RV fid γ h x v) : RV fid γ' h' x v := by
  by_cases ha : ∃ cs, v = .agg cs
  · obtain ⟨cs, rfl⟩ := ha
    simp only [okT] at hv
    obtain ⟨arr, e, hs, hR⟩ := RV_agg.1 H
    refine RV_agg.2 ⟨arr, e, hs, ?_⟩
    have key : ∀ (l : List PV) (off : Nat), l.all okC = true → RCells fid γ h arr off l → RCells fid γ' h' arr off l := by
      intro l
      induction l with
      | nil => intro off _ _; simp only [RCells]
      | cons v r ih =>
        intro off ho hR
        simp only [List.all_cons, Bool.and_eq_true] at ho
        simp only [RCells] at hR ⊢
        exact ⟨⟨hR.1.1, okC_mono hm ho.1 hR.1.2⟩, ih _ ho.2 hR.2⟩
    exact key cs 0 hv hR
  · have : okC v = true := by
      cases v <;> first | exact hv | exact absurd ⟨_, rfl⟩ ha
    exact okC_mono hm this H
/-- The slots of a round. -/
theorem zipS_ok {γ : Gh} {w : World} {ob : OB} : ∀ (ps : List Tmp) (vals : List Value) (x : List PV) (tmps : Array Value) (sl : SL), St C γ w tmps sl ob → ps.length = x.length → vals.length = x.length → (∀ t ∈ ps, t < tmps.size) → (∀ (i : Nat) v y, x[i]? = some v → vals[i]? = some y → RV C.fid γ w.heap y v) →
    St C γ w ((ps.zip vals).foldl (fun t (p : Tmp × Value) => t.setIfInBounds p.1 p.2) tmps) (zipS ps x sl) ob ∧ ((ps.zip vals).foldl (fun t (p : Tmp × Value) => t.setIfInBounds p.1 p.2) tmps).size = tmps.size
  | [], vals, [], tmps, sl, S, _, _, _, _ => ⟨S, rfl⟩
  | p :: ps, v :: vals, x :: xs, tmps, sl, S, h1, h2, h3, h4 => by
    simp only [List.zip_cons_cons, List.foldl_cons, zipS]
    have S' := S.put p (h3 p (List.mem_cons_self ..)) (h4 0 x v rfl rfl)
    obtain ⟨g1, g2⟩ := zipS_ok ps vals xs _ _ S' (by simpa using h1) (by simpa using h2) (fun t ht => by simp; exact h3 t (List.mem_cons_of_mem _ ht)) (fun i a b ha hb => h4 (i + 1) a b (by simpa using ha) (by simpa using hb))
    exact ⟨g1, by rw [g2]; simp⟩
  | [], _, _ :: _, _, _, _, h, _, _, _ => by simp at h
  | _ :: _, _, [], _, _, _, h, _, _, _ => by simp at h
  | _ :: _, [], _ :: _, _, _, _, _, h, _, _ => by simp at h
/-- Fewer objects that stay. -/
theorem St.rekp {γ : Gh} {C : Ctx} {γ0 : Gh} {w0 w : World} {k1 k2 : Nat → Prop} {tmps : Array Value} {sl : SL} {ob : OB} (S : St (C.re γ0 w0 k1) γ w tmps sl ob) (h : ∀ k, k2 k → k1 k) : St (C.re γ0 w0 k2) γ w tmps sl ob :=
  ⟨S.slot, S.obj, S.dom, S.inj, S.unf, S.own, S.lt, S.glob, S.chg, S.gn, S.gnew, fun k i hk hi => S.kept k i (h k hk) hi, S.imk, S.imn, S.place, S.fresh⟩
end
end Go.Proofs.YtcimkkcajkmfoaaDoor
