import Derived.Test.YtnkapponcbgbhaaDrawA
import Derived.Test.YtnkapponcbgbhaaStepB
import Derived.Test.YtnkapponcbgbhaaHeadB
import Derived.RangeFuncIn
import Derived.RangeFuncSeq
import Derived.RangeFuncOwn
import Derived.RangeFuncCalls
import Derived.LoopNIn
import Derived.Scope
import Derived.ControlIn
set_option linter.all false
namespace Go.Proofs.Ytnkapponcbgbhaa
section
open Go
section
variable {P : Program} {E : Env} {C : Ctx} {Φ : Sem'} {ops : Array Oper}
def RunT (P : Program) (E : Env) (Φ : Sem') (ops : Array Oper) (A : Nat → List PV) : List Nat → SL × OB → SL × OB → Prop
  | [], x, y => EqX x y
  | i :: l, x, y => ∃ o x1, ops[i]? = some o ∧ accs E x.1 o.op = A i ∧ stepA P E Φ ops o x = some x1 ∧ RunT P E Φ ops A l x1 y
theorem RunT.resp (hro : True) (hrov : E.rov = false ∧ True) {A : Nat → List PV} : ∀ {l : List Nat} {x x' y : SL × OB}, EqX x x' → RunT P E Φ ops A l x y → RunT P E Φ ops A l x' y
  | [], x, x', y, h, H => h.symm.trans H
  | i :: l, x, x', y, h, ⟨o, x1, h1, h2, h3, h4⟩ => by
    obtain ⟨g1, x1', g2, g3⟩ := stepA_resp hro hrov h h3
    exact ⟨o, x1', h1, by rw [← g1]; exact h2, g2, RunT.resp hro hrov g3 h4⟩
def Free (P : Program) (E : Env) (ops : Array Oper) (A : Nat → List PV) (i j : Nat) : Prop :=
  ∀ oi oj, ops[i]? = some oi → ops[j]? = some oj → slotsOK ops oj oi = true ∧ clash P E oi.op oj.op < 2 ∧ (clash P E oi.op oj.op = 1 → dis (cutA E oi.op oj.op (A i)) (cutA E oj.op oi.op (A j)) = some ())
theorem idx_high {i j : Nat} : ∀ {l1 l2 : List Nat}, j ∉ l1 → j ≠ i → l1.length < idx (l1 ++ i :: l2) j
  | [], l2, _, h => by simp only [List.nil_append, idx, List.length_nil]; rw [if_neg (fun e => h e.symm)]; omega
  | a :: l1, l2, hj, h => by
    simp only [List.mem_cons, not_or] at hj
    simp only [List.cons_append, idx, List.length_cons]
    rw [if_neg (fun e => hj.1 e.symm)]
    have := idx_high (l1 := l1) (l2 := l2) hj.2 h
    omega
theorem idx_del {i j : Nat} (h : j ≠ i) : ∀ {l1 l2 : List Nat}, (j ∈ l1 → idx (l1 ++ l2) j = idx (l1 ++ i :: l2) j) ∧ (j ∉ l1 → idx (l1 ++ i :: l2) j = idx (l1 ++ l2) j + 1)
  | [], l2 => ⟨fun h => (by cases h), fun _ => by simp only [List.nil_append, idx]; rw [if_neg (fun e => h e.symm)]⟩
  | a :: l1, l2 => by
    obtain ⟨h1, h2⟩ := idx_del (i := i) (j := j) h (l1 := l1) (l2 := l2)
    simp only [List.cons_append, idx, List.mem_cons, not_or]
    by_cases e : a = j
    · simp [e]
    · rw [if_neg e, if_neg e]
      refine ⟨fun hj => ?_, fun hj => ?_⟩
      · rw [h1 (hj.resolve_left (fun e' => e e'.symm))]
      · rw [h2 hj.2]
theorem idx_less {i j k : Nat} {l1 l2 : List Nat} (hj : j ≠ i) (hk : k ≠ i) (h : idx (l1 ++ l2) j < idx (l1 ++ l2) k) : idx (l1 ++ i :: l2) j < idx (l1 ++ i :: l2) k := by
  obtain ⟨a1, a2⟩ := idx_del (i := i) hj (l1 := l1) (l2 := l2)
  obtain ⟨b1, b2⟩ := idx_del (i := i) hk (l1 := l1) (l2 := l2)
  by_cases e1 : j ∈ l1
  · by_cases e2 : k ∈ l1
    · rw [← a1 e1, ← b1 e2]; exact h
    · have := idx_mem (r := i :: l2) e1
      have := idx_high (l2 := l2) e2 hk
      omega
  · by_cases e2 : k ∈ l1
    · have := b1 e2
      have := a2 e1
      have := idx_mem (r := l2) e2
      have := idx_high (l2 := l2) e1 hj
      omega
    · have := a2 e1; have := b2 e2; omega
theorem RunT.run (hro : True) (hrov : E.rov = false ∧ True) {A : Nat → List PV} : ∀ {l : List Nat} {x y : SL × OB}, RunT P E Φ ops A l x y → ∃ os y', l.map (ops[·]?) = os.map some ∧ runA P E Φ ops os x = some y' ∧ EqX y' y
  | [], x, y, H => ⟨[], x, rfl, rfl, H⟩
  | i :: l, x, y, ⟨o, x1, h1, _, h3, h4⟩ => by
    obtain ⟨os, y', g1, g2, g3⟩ := RunT.run hro hrov h4
    exact ⟨o :: os, y', by simp [h1, g1], by simp only [runA, h3]; exact g2, g3⟩
theorem denOps_tr {pr : List (Nat × Nat)} {K : SL → OB → Option R} {r : R} : ∀ (os : List Oper) (j : Nat) (tr : List (Nat × List PV)) (x : SL × OB), (∀ k : Nat, k < os.length → ops[j + k]? = os[k]?) → denOps P E Φ ops pr K j tr os x.1 x.2 = some r →
    ∃ (A : Nat → List PV) (y : SL × OB), (∀ i, i < j → A i = look tr i) ∧ RunT P E Φ ops A (List.range' j os.length) x y ∧ K y.1 y.2 = some r ∧ ∀ i k, j ≤ k → k < j + os.length → i < k → i ∈ earlier pr k → ∀ ok, ops[k]? = some ok → disP E ops ok.op i (A i) (A k) = some ()
  | [], j, tr, x, _, H => ⟨look tr, x, fun _ _ => rfl, EqX.refl x, H, fun i k h1 h2 => by simp at h2; omega⟩
  | o :: os, j, tr, x, ho, H => by
    simp only [denOps] at H
    obtain ⟨H, h1⟩ := disK_some H
    obtain ⟨x1, h2, H⟩ := denI_step H
    obtain ⟨A, y, g1, g2, g3, g4⟩ := denOps_tr os (j + 1) ((j, accs E x.1 o.op) :: tr) x1 (fun k hk => by
      have := ho (k + 1) (by simp; omega)
      rw [show j + (k + 1) = j + 1 + k by omega] at this
      simpa using this) H
    have hj : A j = accs E x.1 o.op := by rw [g1 j (by omega)]; simp [look]
    have hlt : ∀ i, i < j → A i = look tr i := fun i hi => by rw [g1 i (by omega)]; simp only [look]; rw [if_neg (by omega)]
    refine ⟨A, y, hlt, ?_, g3, fun i k hk1 hk2 hik hin ok hok => ?_⟩
    · rw [List.length_cons, List.range'_succ]
      have := ho 0 (by simp)
      exact ⟨o, x1, by simpa using this, hj.symm, h2, g2⟩
    · by_cases e : k = j
      · subst e
        rw [hj, hlt i hik]
        have h0 := ho 0 (by simp)
        rw [Nat.add_zero, hok] at h0
        injection h0 with h0
        subst h0
        exact h1 i hin
      · exact g4 i k (by omega) (by simp at hk2; omega) hik hin ok hok
theorem earlier_mem {pr : List (Nat × Nat)} {i k : Nat} (h : (i, k) ∈ pr) : i ∈ earlier pr k := List.mem_filterMap.2 ⟨(i, k), h, by simp⟩
theorem pairs_mem {i j : Nat} {oi oj : Oper} (hij : i < j) (hi : ops[i]? = some oi) (hj : ops[j]? = some oj) (hb : ((Region.before ops).getD j 0).testBit i = false) (hc : clash P E oi.op oj.op = 1) : (i, j) ∈ pairs P E ops := by
  unfold pairs
  simp only
  have hz : ∀ (k : Nat) (o : Oper), ops[k]? = some o → (o, k) ∈ ops.toList.zipIdx := fun k o h => by
    rw [List.mk_mem_zipIdx_iff_getElem?]; simpa using h
  refine List.mem_flatMap.2 ⟨(oj, j), hz j oj hj, List.mem_filterMap.2 ⟨(oi, i), hz i oi hi, ?_⟩⟩
  rw [Array.getD_eq_getD_getElem?] at hb
  simp [hij, hb, hc]
theorem ord_free {A : Nat → List PV} (hord : ordOK P E ops = true) (hdis : ∀ i k, k < ops.size → i < k → i ∈ earlier (pairs P E ops) k → ∀ ok, ops[k]? = some ok → disP E ops ok.op i (A i) (A k) = some ()) {i j : Nat} (hij : i < j) (hb : ((Region.before ops).getD j 0).testBit i = false) : Free P E ops A i j := by
  intro oi oj hi hj
  unfold ordOK at hord
  simp only [Bool.and_eq_true, List.all_eq_true] at hord
  have hz : ∀ (k : Nat) (o : Oper), ops[k]? = some o → (o, k) ∈ ops.toList.zipIdx := fun k o h => by
    rw [List.mk_mem_zipIdx_iff_getElem?]; simpa using h
  have h1 := (hord.2 (oj, j) (hz j oj hj)).2 (oi, i) (hz i oi hi)
  simp only [hij, decide_true, Bool.not_true, Bool.false_or, hb, Bool.and_eq_true, decide_eq_true_eq] at h1
  refine ⟨h1.2, h1.1, fun hc => ?_⟩
  have hlt : j < ops.size := (Array.getElem?_eq_some_iff.1 hj).1
  have := hdis i j hlt hij (earlier_mem (pairs_mem hij hi hj hb hc)) oj hj
  simpa only [disP, hi] using this
variable (hE : E.fid = C.fid) (hG : E.glob = C.glob) (hro : True) (hrov : E.rov = false ∧ True) (hΦ : Sound P C.fid C.glob Φ) {N : Nat} (hd : ∀ o ∈ ops.toList, ∀ t, o.dst = some t → t < N)
include hE hG hro hrov hΦ hd
theorem RunT.pull {A : Nat → List PV} {i : Nat} {oi : Oper} (hi : ops[i]? = some oi) : ∀ {l1 l2 : List Nat} {x x1 y : SL × OB}, Hyp C N x → accs E x.1 oi.op = A i → stepA P E Φ ops oi x = some x1 → RunT P E Φ ops A (l1 ++ l2) x1 y → (∀ j ∈ l1, Free P E ops A i j) → RunT P E Φ ops A (l1 ++ i :: l2) x y
  | [], l2, x, x1, y, _, h1, h2, h3, _ => ⟨oi, x1, hi, h1, h2, h3⟩
  | j :: l1, l2, x, x1, y, hy, h1, h2, ⟨oj, x2, g1, g2, g3, g4⟩, hf => by
    obtain ⟨f1, f2, f3⟩ := hf j (by simp) oi oj hi g1
    obtain ⟨x1', x2', k1, k2, k3, k4, k5⟩ := swap_steps hro hrov hy f1 f2 (fun hc => by rw [h1, g2]; exact f3 hc) h2 g3
    have hmem : oj ∈ ops.toList := by rw [Array.mem_toList_iff]; exact Array.mem_of_getElem? g1
    have hy' := hy.step hE hG hro hrov hΦ (hd oj hmem) k1
    exact ⟨oj, x1', g1, by rw [k2]; exact g2, k1, RunT.pull hi hy' (k3.trans h1) k4 (RunT.resp hro hrov k5.symm g4) (fun j' hj' => hf j' (List.mem_cons_of_mem _ hj'))⟩
theorem RunT.perm {A : Nat → List PV} : ∀ {T l : List Nat} {x y : SL × OB}, Hyp C N x → RunT P E Φ ops A T x y → l.Nodup → T.Nodup → (∀ i, i ∈ l ↔ i ∈ T) → (∀ i j, i ∈ T → j ∈ T → idx T i < idx T j → idx l j < idx l i → Free P E ops A i j) → RunT P E Φ ops A l x y
  | [], l, x, y, _, H, _, _, hm, _ => by
    have : l = [] := by
      cases l with
      | nil => rfl
      | cons a r => have := (hm a).1 (by simp); cases this
    subst this; exact H
  | i :: T, l, x, y, hy, ⟨oi, x1, h1, h2, h3, h4⟩, hl, hT, hm, hf => by
    obtain ⟨l1, l2, rfl⟩ := List.append_of_mem ((hm i).2 (by simp))
    have hmem : oi ∈ ops.toList := by rw [Array.mem_toList_iff]; exact Array.mem_of_getElem? h1
    have hy' := hy.step hE hG hro hrov hΦ (hd oi hmem) h3
    obtain ⟨a1, a2, a3⟩ := List.nodup_append.1 hl
    obtain ⟨a4, a5⟩ := List.nodup_cons.1 a2
    obtain ⟨b1, b2⟩ := List.nodup_cons.1 hT
    have hi1 : i ∉ l1 := fun h => a3 i h i (by simp) rfl
    have hmem' : ∀ j, j ∈ l1 ++ l2 ↔ j ∈ T := by
      intro j
      have hmj := hm j
      simp only [List.mem_append, List.mem_cons] at hmj ⊢
      constructor
      · intro h
        have hne : j ≠ i := fun e => by subst e; exact h.elim hi1 a4
        exact (hmj.1 (h.imp id .inr)).resolve_left hne
      · intro h
        have hne : j ≠ i := fun e => by subst e; exact b1 h
        exact (hmj.2 (.inr h)).imp id (fun h => h.resolve_left hne)
    have shift : ∀ j, j ∈ T → idx (i :: T) j = idx T j + 1 := fun j hj => by
      simp only [idx]; rw [if_neg (fun e => b1 (by rw [e]; exact hj))]
    have h5 : RunT P E Φ ops A (l1 ++ l2) x1 y := by
      refine RunT.perm hy' h4 ?_ b2 hmem' ?_
      · exact List.nodup_append.2 ⟨a1, a5, fun p hp q hq => a3 p hp q (List.mem_cons_of_mem _ hq)⟩
      · intro j k hj hk hlt hlt2
        have hji : j ≠ i := fun e => by subst e; exact b1 hj
        have hki : k ≠ i := fun e => by subst e; exact b1 hk
        exact hf j k (List.mem_cons_of_mem _ hj) (List.mem_cons_of_mem _ hk) (by rw [shift j hj, shift k hk]; omega) (idx_less hki hji hlt2)
    refine RunT.pull hE hG hro hrov hΦ hd h1 hy h2 h3 h5 (fun j hj => ?_)
    have hjT : j ∈ T := (hmem' j).1 (List.mem_append_left _ hj)
    refine hf i j (by simp) (List.mem_cons_of_mem _ hjT) ?_ ?_
    · rw [shift j hjT]; simp [idx]
    · rw [idx_at hi1]; exact idx_mem hj
theorem draw_run {x : SL × OB} {r : R} {K : SL → OB → Option R} (hy : Hyp C N x) (hord : ordOK P E ops = true) (H : denOps P E Φ ops (pairs P E ops) K 0 [] ops.toList x.1 x.2 = some r) (mixed : Bool) (t : Nat) :
    ∃ os y y', (Region.schedule mixed ops t).map (ops[·]?) = os.map some ∧ runA P E Φ ops os x = some y' ∧ EqX y' y ∧ K y.1 y.2 = some r := by
  obtain ⟨A, y, _, h2, h3, h4⟩ := denOps_tr (ops := ops) ops.toList 0 [] x (fun k hk => by simp) H
  have hord' := hord
  unfold ordOK at hord'
  simp only [Bool.and_eq_true, List.all_eq_true, Bool.or_eq_true, Bool.not_eq_true', beq_iff_eq] at hord'
  have hz : ∀ (k : Nat) (o : Oper), ops[k]? = some o → (o, k) ∈ ops.toList.zipIdx := fun k o h => by
    rw [List.mk_mem_zipIdx_iff_getElem?]; simpa using h
  obtain ⟨md, hfull⟩ := sched_full (ops := ops) (fun j o hj e he => by
    have := (hord'.2 (o, j) (hz j o hj)).1.2
    rw [Array.all_eq_true_iff_forall_mem] at this
    have := this e he
    simp only [Bool.or_eq_true, decide_eq_true_eq] at this
    refine this.imp id fun h => ?_
    split at h
    · rename_i r hr; exact ⟨r, hr⟩
    · cases h) hord'.1 mixed t
  have hsize : ops.toList.length = ops.size := by simp
  rw [hsize] at h2 h4
  have hT : (List.range' 0 ops.size).Nodup := List.nodup_range'
  have h5 := RunT.perm hE hG hro hrov hΦ hd (l := Region.schedule mixed ops t) hy h2 hfull.nd hT (fun i => by
    simp only [List.mem_range'_1, Nat.zero_add, Nat.zero_le, true_and]
    exact ⟨hfull.lt i, hfull.all i⟩) (fun i j hi hj hlt hlt2 => by
    have hi : i < ops.size := by simpa using hi
    have hj : j < ops.size := by simpa using hj
    rw [idx_range _ _ _ (Nat.zero_le _) (by omega), idx_range _ _ _ (Nat.zero_le _) (by omega)] at hlt
    refine ord_free hord (fun i k hk hik hin => h4 i k (Nat.zero_le _) (by omega) hik hin) (by omega) ?_
    cases hb : ((Region.before ops).getD j 0).testBit i
    · rfl
    · have := hfull.prec (j + 1) i j (by omega) hj hb
      omega)
  obtain ⟨os, y', g1, g2, g3⟩ := RunT.run hro hrov h5
  exact ⟨os, y, y', g1, g2, g3, h3⟩
end
end
section
open Go
def ownB (γ : Gh) (b : Nat) : Prop := ∃ o i, γ.mu o = some i ∧ i.blk = some b
def Ctx.re (C : Ctx) (γ : Gh) (w : World) (kp : Nat → Prop) : Ctx := { C with w0 := w, A := ownB γ, g0 := γ, kp := kp }
structure Ext (C C' : Ctx) : Prop where
  fid : C'.fid = C.fid
  glob : C'.glob = C.glob
  gn : C'.gn = C.gn
  kp : ∀ k, C.kp k → C'.kp k
  chg : Chg (fun b => C.A b ∨ C.w0.heap.size ≤ b) C.w0 C'.w0
  A : ∀ b, C'.A b → C.A b ∨ C.w0.heap.size ≤ b
  kept : ∀ k i, C.kp k → C.g0.mu k = some i → ∃ i', C'.g0.mu k = some i' ∧ (i' = i ∨ i.ver < i'.ver)
  imk : ∀ b, C.g0.im b → C'.g0.im b ∧ C'.w0.heap[b]? = C.w0.heap[b]?
  imn : ∀ b, C'.g0.im b → C.g0.im b ∨ (C.A b ∨ C.w0.heap.size ≤ b)
  place : ∀ o j b, o < 64 → C'.g0.mu o = some j → j.blk = some b → (∃ j, C.g0.mu o = some j ∧ j.blk = some b) ∨ C.N b
  N : C'.N = C.N
  gnew : ∀ b, C.A b ∨ C.w0.heap.size ≤ b → C.gn b
  fresh : ∀ b, C.w0.heap.size ≤ b → C.N b
theorem Ext.refl' {C : Ctx} {γ : Gh} {w : World} {tmps : Array Value} {sl : SL} {ob : OB} (S : St C γ w tmps sl ob) : Ext C C :=
  ⟨rfl, rfl, rfl, fun _ h => h, Chg.refl _ _, fun _ h => .inl h, fun _ i _ h => ⟨i, h, .inl rfl⟩, fun _ h => ⟨h, rfl⟩, fun _ h => .inl h, fun _ j _ _ h hb => .inl ⟨j, h, hb⟩, rfl, S.gnew, S.fresh⟩
section
variable {C C' : Ctx} {γ : Gh} {w w' : World} {tmps : Array Value} {sl : SL} {ob : OB}
theorem Ext.new (X : Ext C C') {b : Nat} (h : C'.A b ∨ C'.w0.heap.size ≤ b) : C.A b ∨ C.w0.heap.size ≤ b := by
  rcases h with h | h
  · exact X.A b h
  · exact .inr (Nat.le_trans X.chg.size h)
theorem St.unext (X : Ext C C') (S : St C' γ w tmps sl ob) : St C γ w tmps sl ob := by
  constructor
  · rw [← X.fid]; exact S.slot
  · rw [← X.fid]; exact S.obj
  · exact S.dom
  · exact S.inj
  · exact S.unf
  · exact fun o i b hi hb => X.new (S.own o i b hi hb)
  · exact S.lt
  · rw [← X.glob]; exact S.glob
  · exact X.chg.trans ⟨S.chg.os, S.chg.tape, S.chg.output, S.chg.size, fun k hk hA => S.chg.block k hk (fun h => hA (X.new h))⟩
  · rw [← X.gn]; exact S.gn
  · exact X.gnew
  · intro k i hk hi
    obtain ⟨i1, h1, h2⟩ := X.kept k i hk hi
    obtain ⟨i2, h3, h4⟩ := S.kept k i1 (X.kp k hk) h1
    refine ⟨i2, h3, ?_⟩
    rcases h2 with rfl | h2
    · exact h4
    · rcases h4 with rfl | h4
      · exact .inr h2
      · exact .inr (by omega)
  · intro b hb
    obtain ⟨h1, h2⟩ := X.imk b hb
    obtain ⟨h3, h4⟩ := S.imk b h1
    exact ⟨h3, h4.trans h2⟩
  · intro b hb
    rcases S.imn b hb with h | h
    · exact X.imn b h
    · exact .inr (X.new h)
  · intro o i b hi hb
    rcases S.place o i b hi hb with ⟨h1, j, h2, h3⟩ | h
    · rcases X.place o j b h1 h2 h3 with h | h
      · exact .inl ⟨h1, h⟩
      · exact .inr h
    · exact .inr (X.N ▸ h)
  · exact X.fresh
theorem St.rebase (S : St C γ w tmps sl ob) (kp : Nat → Prop) {Q : Nat → Prop} (hc : Chg Q w w') (hq : ∀ b, b < w.heap.size → Q b → ¬ γ.im b ∧ ¬ ownB γ b) : St (C.re γ w' kp) γ w' tmps sl ob := by
  have him : ∀ b, γ.im b → w'.heap[b]? = w.heap[b]? := fun b hb => hc.block b (S.lt b hb) (fun h => (hq b (S.lt b hb) h).1 hb)
  have how : ∀ o i b, γ.mu o = some i → i.blk = some b → w'.heap[b]? = w.heap[b]? := fun o i b hi hb => hc.block b (blk_lt S hi hb) (fun h => (hq b (blk_lt S hi hb) h).2 ⟨o, i, hi, hb⟩)
  have mv : ∀ T, Mv γ γ w.heap w'.heap T (fun o => o) := fun T => ⟨fun o _ i hi => ⟨i, hi, .inl rfl⟩, fun g b hb => ⟨hb, him b hb.1⟩⟩
  constructor
  · exact fun t => RAt_mono (mv _) (S.slot t)
  · intro o x hx
    obtain ⟨i, h1, h2⟩ := S.obj o x hx
    exact ⟨i, h1, ORel_mono (mv _) (fun b hb => how o i b h1 hb) h2⟩
  · exact S.dom
  · exact S.inj
  · exact S.unf
  · exact fun o i b hi hb => .inl ⟨o, i, hi, hb⟩
  · exact fun b hb => Nat.lt_of_lt_of_le (S.lt b hb) hc.size
  · intro g xs hg
    obtain ⟨h1, cs, h2, h3⟩ := S.glob g xs hg
    exact ⟨h1, cs, h2.keep (him g h1.1), PCells_mono (fun b hb => ⟨hb, him b hb.1⟩) _ _ _ h3⟩
  · exact Chg.refl _ _
  · exact S.gn
  · rintro b (⟨o, i, hi, hb⟩ | h)
    · exact S.gnew b (S.own o i b hi hb)
    · exact S.gnew b (.inr (Nat.le_trans S.chg.size (Nat.le_trans hc.size h)))
  · exact fun k i _ hi => ⟨i, hi, .inl rfl⟩
  · exact fun b hb => ⟨hb, rfl⟩
  · exact fun b hb => .inl hb
  · intro o i b hi hb
    rcases S.place o i b hi hb with ⟨h1, _⟩ | h
    · exact .inl ⟨h1, i, hi, hb⟩
    · exact .inr h
  · exact fun b hb => S.fresh b (Nat.le_trans S.chg.size (Nat.le_trans hc.size hb))
theorem Ext.rebase (X : Ext C C') (S : St C' γ w tmps sl ob) {kp : Nat → Prop} (hkp : ∀ k, C.kp k → kp k) {Q : Nat → Prop} (hc : Chg Q w w') (hQ : ∀ b, b < C.w0.heap.size → Q b → C.A b) (hq : ∀ b, b < w.heap.size → Q b → ¬ γ.im b ∧ ¬ ownB γ b) : Ext C (C'.re γ w' kp) := by
  have S0 := S.unext X
  refine ⟨X.fid, X.glob, X.gn, hkp, ?_, ?_, ?_, ?_, ?_, ?_, X.N, X.gnew, X.fresh⟩
  · refine S0.chg.trans ⟨hc.os, hc.tape, hc.output, hc.size, fun k hk hA => hc.block k hk (fun h => hA ?_)⟩
    by_cases hlt : k < C.w0.heap.size
    · exact .inl (hQ k hlt h)
    · exact .inr (by omega)
  · rintro b ⟨o, i, hi, hb⟩
    exact S0.own o i b hi hb
  · exact fun k i hk hi => S0.kept k i hk hi
  · intro b hb
    obtain ⟨h1, h2⟩ := S0.imk b hb
    exact ⟨h1, (hc.block b (S.lt b h1) (fun h => (hq b (S.lt b h1) h).1 h1)).trans h2⟩
  · exact fun b hb => S0.imn b hb
  · intro o j b ho hj hb
    rcases S0.place o j b hj hb with ⟨_, h⟩ | h
    · exact .inl h
    · exact .inr h
theorem St.same (S : St C γ w tmps sl ob) {Q : Nat → Prop} (hc : Chg Q w w') (hQ : ∀ b, b < C.w0.heap.size → Q b → C.A b) (hq : ∀ b, b < w.heap.size → Q b → ¬ γ.im b ∧ ¬ ownB γ b) : St C γ w' tmps sl ob :=
  (S.rebase C.kp hc hq).unext ((Ext.refl' S).rebase S (fun _ h => h) hc hQ hq)
theorem St.moreIm (S : St C γ w tmps sl ob) {I : Nat → Prop} (h1 : ∀ b, I b → b < w.heap.size) (h2 : ∀ o x i b, getO ob o = some x → x.fro = false → γ.mu o = some i → i.blk = some b → ¬ I b) (h3 : ∀ b, I b → C.g0.im b ∨ (C.A b ∨ C.w0.heap.size ≤ b)) : St C { γ with im := fun b => γ.im b ∨ I b } w tmps sl ob := by
  have mv : ∀ T, Mv γ { γ with im := fun b => γ.im b ∨ I b } w.heap w.heap T (fun o => o) := fun T => ⟨fun o _ i hi => ⟨i, hi, .inl rfl⟩, fun g b hb => ⟨⟨.inl hb.1, hb.2⟩, rfl⟩⟩
  constructor
  · exact fun t => RAt_mono (mv _) (S.slot t)
  · intro o x hx
    obtain ⟨i, g1, g2⟩ := S.obj o x hx
    exact ⟨i, g1, ORel_mono (mv _) (fun _ _ => rfl) g2⟩
  · exact S.dom
  · exact S.inj
  · rintro o x i b hx hf hi hb (h | h)
    · exact S.unf o x i b hx hf hi hb h
    · exact h2 o x i b hx hf hi hb h
  · exact S.own
  · rintro b (h | h)
    · exact S.lt b h
    · exact h1 b h
  · intro g xs hg
    obtain ⟨g1, cs, g2, g3⟩ := S.glob g xs hg
    exact ⟨⟨.inl g1.1, g1.2⟩, cs, g2, PCells_mono (fun b hb => ⟨⟨.inl hb.1, hb.2⟩, rfl⟩) _ _ _ g3⟩
  · exact S.chg
  · exact S.gn
  · exact S.gnew
  · exact S.kept
  · intro b hb
    exact ⟨.inl (S.imk b hb).1, (S.imk b hb).2⟩
  · rintro b (h | h)
    · exact S.imn b h
    · exact h3 b h
  · exact S.place
  · exact S.fresh
theorem St.slots (S : St C γ w tmps sl ob) {tmps' : Array Value} {sl' : SL} (h : ∀ t, RV C.fid γ w.heap (tmps'.getD t undef) (getS sl' t)) : St C γ w tmps' sl' ob :=
  { S with slot := h }
end
end
section
open Go
def exitOf : Out → Exit
  | .norm => .normal
  | .exit id => .exit id
  | .goto l => .goto l
  | .ret => .ret
def Wd (F : Fence) : Prop := F = Fence.wide ∨ ∃ l, F = Fence.wide.inRound l
theorem Wd.fn {F : Fence} (h : Wd F) (f : FuncId) : F.fn f := by
  rcases h with rfl | ⟨l, rfl⟩ <;> exact trivial
theorem Wd.depth {F : Fence} (h : Wd F) : ¬ F.depth.isSome = true := by
  rcases h with rfl | ⟨l, rfl⟩ <;> simp [Fence.wide]
theorem Wd.calls {F : Fence} (h : Wd F) {n : Nat} {P : Program} {f : FuncId} {args : Array Value} {w : World} {R : Ending → World → Prop} (hc : Calls P f args w R) : CallsIn F n P f args w R := by
  rcases h with rfl | ⟨l, rfl⟩
  · exact callsIn_wide.2 hc
  · exact CallsIn.inRound l (callsIn_wide.2 hc)
abbrev KeepT := Ctx → List Deferred → R → SL → Prop
def Inv (C : Ctx) (T : KeepT) (r : R) (γ : Gh) (w : World) (a : Act) (sl : SL) (ob : OB) : Prop :=
  ∃ C', C'.fid = C.fid ∧ C'.glob = C.glob ∧ T C' a.defers r sl ∧ St C' γ w a.tmps sl ob
def Post (C : Ctx) (T : KeepT) (n : Nat) (K : Kont) : Exit → Act → World → Prop := fun e a w =>
  a.tmps.size = n ∧ ∃ o sl ob γ r, exitOf o = e ∧ K o sl ob = some r ∧ Inv C T r γ w a sl ob
def SlotOK (yp : Bool) (T : KeepT) : Prop := ∀ C' ds r sl sl', (yp = true → ∀ n m, getS sl' tslot = .y 1 n m → getS sl tslot = .y 1 n m) → T C' ds r sl → T C' ds r sl'
section
variable {P : Program} {E : Env} {C : Ctx} {F : Fence}
theorem runs_wpInF (hF : Wd F) {n : Nat} {o : Oper} {a : Act} {w : World} {Post : Value → World → Prop} {next : Act → World → Prop} {Q : Exit → Act → World → Prop} (hnd : ∀ c, o.op ≠ .defer c) (H : Runs P a.eval o w Post) (hn : ∀ x w', Post x w' → next (a.put o.dst x) w') : o.wpIn F n P a w next Q := by
  refine ⟨fun f _ => hF.fn f, ?_⟩
  have hs : o.semAt F.round a.eval = execOp a.eval o := Oper.semAt_eq _ _ _ hnd
  rw [hs]
  rcases H with ⟨x, w', h1, h2⟩ | ⟨w', h1, h2⟩ | ⟨f, args, w', h1, h2⟩
  · rw [h1]; exact hn _ _ h2
  · rw [h1]; exact hn _ _ h2
  · rw [h1]
    refine ⟨fun h => absurd h hF.depth, ?_⟩
    refine CallsIn.mono (hF.calls h2) ?_
    rintro e w'' ⟨v, rfl, hp⟩
    exact hn _ _ hp
theorem stepA_slot {Φ : Sem'} {ops : Array Oper} {o : Oper} {x y : SL × OB} (hd : o.dst ≠ some tslot) (H : stepA P E Φ ops o x = some y) : getS y.1 tslot = getS x.1 tslot := by
  have key : ∀ v, getS (putS o.dst v x.1) tslot = getS x.1 tslot := by
    intro v
    cases h : o.dst with
    | none => rfl
    | some t => simp only [putS, getS_cons]; rw [if_neg (fun e => hd (by rw [h, e]))]
  unfold stepA at H
  split at H
  · cases H
  · cases hA : opA P E Φ x.1 x.2 (nid o.dst) o.op with
    | none => simp [hA] at H
    | some r => simp only [hA, Option.map_some, Option.some.injEq] at H; subst H; exact key _
  · injection H with H; subst H; exact key _
theorem no_defer {Φ : Sem'} {sl : SL} {ob : OB} {d : Nat} {o : Op} {r : Up} (H : opA P E Φ sl ob d o = some r) : ∀ c, o ≠ .defer c := by
  rintro c rfl
  simp [opA, opV, opP, opO] at H
theorem op_wpInF (hF : Wd F) {T : KeepT} (hT : SlotOK E.yp T) (hE : E.fid = C.fid) (hG : E.glob = C.glob) (hro : True) (hrov : E.rov = false) {Φ : Sem'} (hΦ : Sound P C.fid C.glob Φ) {ops : Array Oper} {o : Oper} {N n : Nat} (hd : ∀ t, o.dst = some t → t < N ∧ (E.yp = true → t < tslot)) {r : R} {γ : Gh} {w : World} {a : Act} {x y : SL × OB}
    (hs : a.tmps.size = N) (I : Inv C T r γ w a x.1 x.2) (H : stepA P E Φ ops o x = some y) {next : Act → World → Prop} {Q : Exit → Act → World → Prop} (hn : ∀ a' γ' w', a'.tmps.size = N → Inv C T r γ' w' a' y.1 y.2 → next a' w') :
    if Region.wanted o (yielded ops a.tmps) = true then o.wpIn F n P a w next Q else next (a.put o.dst undef) w := by
  obtain ⟨C', hf, hg, hTT, S⟩ := I
  have hd' : ∀ t, o.dst = some t → t < a.tmps.size := fun t ht => by rw [hs]; exact (hd t ht).1
  have hT' : T C' a.defers r y.1 := by
    refine hT _ _ _ _ _ (fun hy n m h => ?_) hTT
    rw [← stepA_slot (fun e => Nat.lt_irrefl _ ((hd _ e).2 hy)) H]; exact h
  rcases step_ok (by rw [hE, hf]) (by rw [hG, hg]) hro hrov S (by rw [hf, hg]; exact hΦ) hd' H with ⟨h1, h2⟩ | ⟨h1, h2⟩
  · rw [if_pos h1]
    have hnd : ∀ c, o.op ≠ .defer c := by
      unfold stepA at H
      split at H
      · cases H
      · cases hA : opA P E Φ x.1 x.2 (nid o.dst) o.op with
        | none => simp [hA] at H
        | some r => exact no_defer hA
      · rename_i hw
        rw [want_ok S hw] at h1; cases h1
    refine runs_wpInF hF hnd h2 ?_
    rintro v w' ⟨γ', S'⟩
    exact hn _ γ' w' (by rw [put_size]; exact hs) ⟨C', hf, hg, by cases o.dst <;> exact hT', S'⟩
  · rw [if_neg (by rw [h1]; simp)]
    exact hn _ γ w (by rw [put_size]; exact hs) ⟨C', hf, hg, by cases o.dst <;> exact hT', h2⟩
theorem run_wpInF (hF : Wd F) {T : KeepT} (hT : SlotOK E.yp T) {Q : Exit → Act → World → Prop} {n N : Nat} (hE : E.fid = C.fid) (hG : E.glob = C.glob) (hro : True) (hrov : E.rov = false) {Φ : Sem'} (hΦ : Sound P C.fid C.glob Φ) (ops : Array Oper) (hd : ∀ o ∈ ops.toList, ∀ t, o.dst = some t → t < N ∧ (E.yp = true → t < tslot)) {r : R} :
    ∀ (l : List Nat) (os : List Oper) (a : Act) (γ : Gh) (w : World) (x y : SL × OB), l.map (ops[·]?) = os.map some → a.tmps.size = N → Inv C T r γ w a x.1 x.2 → runA P E Φ ops os x = some y →
      (∀ a' γ' w', a'.tmps.size = N → Inv C T r γ' w' a' y.1 y.2 → Q .normal a' w') → wpOpsIn F n P ops Q l a w
  | [], os, a, γ, w, x, y, hl, hs, I, H, hQ => by
    cases os with
    | nil => simp only [runA, Option.some.injEq] at H; subst H; exact hQ a γ w hs I
    | cons o r => simp at hl
  | i :: l, os, a, γ, w, x, y, hl, hs, I, H, hQ => by
    cases os with
    | nil => simp at hl
    | cons o rest =>
      simp only [List.map_cons, List.cons.injEq] at hl
      obtain ⟨hi, hl⟩ := hl
      simp only [runA] at H
      split at H
      · rename_i z hz
        have hmem : o ∈ ops.toList := by
          rw [Array.mem_toList_iff]; exact Array.mem_of_getElem? hi
        simp only [wpOpsIn, hi]
        have := op_wpInF (n := n) hF hT hE hG hro hrov hΦ (hd o hmem) hs I hz (next := fun a w => wpOpsIn F n P ops Q l a w) (Q := Q) (fun a' γ' w' h1 h2 => run_wpInF hF hT hE hG hro hrov hΦ ops hd l rest a' γ' w' z y hl h1 h2 H hQ)
        split
        · rename_i h1; rw [if_pos h1] at this; exact this
        · rename_i h1; rw [if_neg h1] at this; exact ⟨fun f _ => hF.fn f, this⟩
      · cases H
end
end
section
open Go
theorem eqV_ok {x y : PV} (h : eqV x y = true) : x = y := by
  unfold eqV at h
  split at h <;> simp_all
theorem eqVs_ok : ∀ {x y : List PV}, eqVs x y = true → x = y
  | [], [], _ => rfl
  | x :: r, y :: s, h => by
    simp only [eqVs, Bool.and_eq_true] at h
    rw [eqV_ok h.1, eqVs_ok h.2]
  | [], _ :: _, h => by simp [eqVs] at h
  | _ :: _, [], h => by simp [eqVs] at h
theorem eqEls_ok : ∀ {x y : List (List PV)}, eqEls x y = true → x = y
  | [], [], _ => rfl
  | x :: r, y :: s, h => by
    simp only [eqEls, Bool.and_eq_true] at h
    rw [eqVs_ok h.1, eqEls_ok h.2]
  | [], _ :: _, h => by simp [eqEls] at h
  | _ :: _, [], h => by simp [eqEls] at h
theorem eqO_ok {x y : Obj'} (h : eqO x y = true) : x = y := by
  simp only [eqO, Bool.and_eq_true, beq_iff_eq, decide_eq_true_eq] at h
  obtain ⟨⟨⟨⟨⟨⟨⟨⟨h1, h2⟩, h3⟩, h4⟩, h5⟩, h6⟩, h7⟩, h8⟩, h9⟩ := h
  rw [Option.isNone_iff_eq_none] at h8 h9
  cases x; cases y
  simp only at h1 h2 h3 h4 h5 h6 h7 h8 h9
  rw [eqEls_ok h1, h2, h3, h4, h5, h6, h7, h8, h9]
theorem eqOs_ok : ∀ {x y : List Obj'}, eqOs x y = true → x = y
  | [], [], _ => rfl
  | x :: r, y :: s, h => by
    simp only [eqOs, Bool.and_eq_true] at h
    rw [eqO_ok h.1, eqOs_ok h.2]
  | [], _ :: _, h => by simp [eqOs] at h
  | _ :: _, [], h => by simp [eqOs] at h
theorem agree_ok {a b : Option R} {r : R} (h : agree a b = some r) : a = some r ∧ b = some r := by
  unfold agree at h
  split at h
  · rename_i x y
    split at h
    · rename_i hc
      injection h with h; subst h
      simp only [Bool.and_eq_true] at hc
      exact ⟨rfl, by rw [Prod.ext (eqV_ok hc.1) (eqOs_ok hc.2)]⟩
    · cases h
  · cases h
def jumpsP (P : Program) (c : Code) (Q : Exit → Act → World → Prop) : Nat → Exit → Act → World → Prop
  | m, .goto l, a, w => match findLabel c l with
    | none => Q (.goto l) a w
    | some rest => match m with
      | 0 => False
      | m + 1 => rest.wp P (jumpsP P c Q m) a w
  | _, e, a, w => Q e a w
theorem wp_scope_rounds {P : Program} {c : Code} {Q : Exit → Act → World → Prop} {a : Act} {w : World} (m : Nat) (h : c.wp P (jumpsP P c Q m) a w) : (Code.scope c).wp P Q a w := by
  intro b k cs
  have key : ∀ m e a₁ w₁ (M : Machine), jumpsP P c Q m e a₁ w₁ → Arrives P M b (.inScope c :: k) cs e a₁ w₁ → ∃ e a' w', Q e a' w' ∧ Arrives P M b k cs e a' w' := by
    intro m
    induction m with
    | zero =>
      intro e a₁ w₁ M hq harr
      cases e with
      | normal => exact ⟨.normal, a₁, w₁, hq, Steps.trans harr (.one step_inScope)⟩
      | exit id => exact ⟨.exit id, a₁, w₁, hq, fun k' hk => harr k' (by simp [exitTo, hk])⟩
      | goto l =>
        simp only [jumpsP] at hq
        split at hq
        · rename_i hf
          exact ⟨.goto l, a₁, w₁, hq, fun k' hk => harr k' (by simp [gotoIn, hf, hk])⟩
        · exact hq.elim
      | ret => exact ⟨_, a₁, w₁, hq, harr⟩
      | panic ch => exact ⟨_, a₁, w₁, hq, harr⟩
      | outgrown => exact ⟨_, a₁, w₁, hq, harr⟩
    | succ m ih =>
      intro e a₁ w₁ M hq harr
      cases e with
      | normal => exact ⟨.normal, a₁, w₁, hq, Steps.trans harr (.one step_inScope)⟩
      | exit id => exact ⟨.exit id, a₁, w₁, hq, fun k' hk => harr k' (by simp [exitTo, hk])⟩
      | goto l =>
        simp only [jumpsP] at hq
        split at hq
        · rename_i hf
          exact ⟨.goto l, a₁, w₁, hq, fun k' hk => harr k' (by simp [gotoIn, hf, hk])⟩
        · rename_i rest hf
          have hg : gotoIn l (.inScope c :: k) = some (.code rest :: .inScope c :: k) := by simp [gotoIn, hf]
          obtain ⟨e₂, a₂, w₂, hq₂, harr₂⟩ := hq b (.inScope c :: k) cs
          obtain ⟨e₃, a₃, w₃, hq₃, harr₃⟩ := ih e₂ a₂ w₂ _ hq₂ harr₂
          exact ⟨e₃, a₃, w₃, hq₃, .of_steps (harr _ hg) harr₃⟩
      | ret => exact ⟨_, a₁, w₁, hq, harr⟩
      | panic ch => exact ⟨_, a₁, w₁, hq, harr⟩
      | outgrown => exact ⟨_, a₁, w₁, hq, harr⟩
  obtain ⟨e, a₁, w₁, hq, harr⟩ := h b (.inScope c :: k) cs
  obtain ⟨e₂, a₂, w₂, hq₂, harr₂⟩ := key m e a₁ w₁ _ hq harr
  exact ⟨e₂, a₂, w₂, hq₂, .of_steps (.one step_scope) harr₂⟩
theorem hasLabel_find : ∀ (c : Code) (l : Nat), hasLabel l c = (findLabel c l).isSome
  | .seq a b, l => by
    simp only [hasLabel, findLabel, hasLabel_find a l, hasLabel_find b l]
    cases findLabel a l <;> rfl
  | .label l', l => by
    simp only [hasLabel, findLabel]
    split <;> simp_all
  | .skip, _ | .region .., _ | .cond .., _ | .block .., _ | .loop _, _ | .rangeFunc .., _ | .exit _, _ | .scope _, _ | .goto _, _ | .ret, _ | .refuse _, _ => rfl
theorem labsOf_has : ∀ {c : Code} {l : Nat}, hasLabel l c = true → l ∈ labsOf c
  | .seq a b, l, h => by
    simp only [hasLabel, Bool.or_eq_true] at h
    simp only [labsOf, List.mem_append]
    exact h.imp labsOf_has labsOf_has
  | .label l', l, h => by
    simp only [hasLabel, beq_iff_eq] at h
    simp [labsOf, h]
  | .skip, _, h | .region .., _, h | .cond .., _, h | .block .., _, h | .loop _, _, h | .rangeFunc .., _, h | .exit _, _, h | .scope _, _, h | .goto _, _, h | .ret, _, h | .refuse _, _, h => by simp [hasLabel] at h
theorem has_labsOf : ∀ {c : Code} {l : Nat}, l ∈ labsOf c → hasLabel l c = true
  | .seq a b, l, h => by
    simp only [labsOf, List.mem_append] at h
    simp only [hasLabel, Bool.or_eq_true]
    exact h.imp has_labsOf has_labsOf
  | .label l', l, h => by
    simp only [labsOf, List.mem_singleton] at h
    simp [hasLabel, h]
  | .skip, _, h | .region .., _, h | .cond .., _, h | .block .., _, h | .loop _, _, h | .rangeFunc .., _, h | .exit _, _, h | .scope _, _, h | .goto _, _, h | .ret, _, h | .refuse _, _, h => by simp [labsOf] at h
theorem headC_tslot {ob : OB} : ∀ (nc : List NC) (sl : SL) (kb rows : OB) (src : List Nat) (x : SL × OB × OB × List Nat), headC ob nc sl kb rows src = some x → ∀ n m, getS x.1 tslot = .y 1 n m → getS sl tslot = .y 1 n m
  | [], sl, kb, rows, src, x, h, n, m, e => by
    simp only [headC, Option.some.injEq] at h; subst h; exact e
  | .row t o w :: r, sl, kb, rows, src, x, h, n, m, e => by
    simp only [headC] at h
    split at h
    · split at h
      · have := headC_tslot r _ _ _ _ x h n m e
        rcases setS_get sl t _ tslot with h1 | ⟨_, h1⟩
        · rw [h1] at this; exact this
        · rw [h1] at this; cases this
      · cases h
    · cases h
  | .toL t :: r, sl, kb, rows, src, x, h, n, m, e => by
    simp only [headC] at h
    split at h
    · rename_i v hv
      have := headC_tslot r _ _ _ _ x h n m e
      rcases setS_get sl t v tslot with h1 | ⟨_, h1⟩
      · rw [h1] at this; exact this
      · rw [h1] at this
        subst this
        unfold toL at hv
        split at hv <;> simp at hv
    · cases h
  | .crow .. :: _, _, _, _, _, _, h, _, _, _ => by simp [headC] at h
  | .cToL .. :: _, _, _, _, _, _, h, _, _, _ => by simp [headC] at h
theorem head_tslot {h : Hd} {sl : SL} {ob : OB} {x : SL × OB} (H : head h.nc h.ts h.os sl ob = some x) (n m : Nat) (e : getS x.1 tslot = .y 1 n m) : getS sl tslot = .y 1 n m := by
  unfold head at H
  split at H
  · split at H
    · cases H
    · unfold headF at H
      split at H
      · rename_i sl' kb rows src hc
        split at H
        · simp only [Option.some.injEq] at H; subst H
          have := headC_tslot _ _ _ _ _ _ hc n m e
          rcases keepS_get sl h.ts tslot with h1 | h1
          · rw [h1] at this; exact this
          · rw [h1] at this; cases this
        · cases H
      · cases H
  · cases H
theorem headH_tslot {h : Hd} {sl : SL} {ob : OB} {x : SL × OB} (H : headH h sl ob = some x) (n m : Nat) (e : getS x.1 tslot = .y 1 n m) : getS sl tslot = .y 1 n m := by
  unfold headH at H
  obtain ⟨y, hy, H⟩ := bnd_some H
  have h1 := head_tslot H n m e
  rcases renCs_slot _ hy tslot with h2 | h2
  · rw [h2] at h1
    rcases keepS_get sl h.ts tslot with h3 | h3
    · rw [h3] at h1; exact h1
    · rw [h3] at h1; cases h1
  · rw [h2] at h1; cases h1
def HeadOK (T : KeepT) : Prop := ∀ C' ds r sl, T C' ds r sl → ∀ k, C'.kp k → k < 64
structure GoOK (C : Ctx) (T : KeepT) : Prop where
  go : ∀ C' ds r sl γ w tmps ob n i, St C' γ w tmps sl ob → T C' ds r sl → getS sl tslot = .y 1 n 1 → γ.mu 1 = some i → i.ver = n → i.w = 0 → T C' ds r ((tslot, .y 1 n 0) :: sl)
  stop : ∀ C' ds r r' sl γ w tmps ob n i, St C' γ w tmps sl ob → T C' ds r sl → getS sl tslot = .y 1 n 1 → γ.mu 1 = some i → i.ver = n → i.w ≠ 0 → T C' ds r' sl
section
variable {P : Program} {E : Env} {C : Ctx}
theorem inv_head {T : KeepT} (hT : SlotOK E.yp T) (hH : HeadOK T) {r : R} {γ : Gh} {w : World} {a : Act} {sl : SL} {ob : OB} (I : Inv C T r γ w a sl ob) {h : Hd} {x : SL × OB} (H : headH h sl ob = some x) : ∃ γ', Inv C T r γ' w a x.1 x.2 := by
  obtain ⟨C', hf, hg, hTT, S⟩ := I
  obtain ⟨γ', S'⟩ := headH_ok (hH _ _ _ _ hTT) S H
  exact ⟨γ', C', hf, hg, hT _ _ _ _ _ (fun _ n m => headH_tslot H n m) hTT, S'⟩
theorem draw_ok (hE : E.fid = C.fid) (hG : E.glob = C.glob) (hro : True) (hrov : E.rov = false) {Φ : Sem'} (hΦ : Sound P C.fid C.glob Φ) {F : Fence} (hF : Wd F) {T : KeepT} (hT : SlotOK E.yp T) {ops : Array Oper} {n nn id : Nat} {K : Kont} {sl : SL} {ob : OB} {a : Act} {γ : Gh} {w : World} {r : R}
    (hd : ∀ o ∈ ops.toList, ∀ t, o.dst = some t → t < n ∧ (E.yp = true → t < tslot)) (hord : ordOK P E ops = true) (H : denOps P E Φ ops (pairs P E ops) (K .norm) 0 [] ops.toList sl ob = some r) (hs : a.tmps.size = n) (I : Inv C T r γ w a sl ob) :
    (Code.region id ops true).wpIn F nn P (Post C T n K) a w := by
  refine wpIn_region_draw fun t => ?_
  obtain ⟨C', hf, hg, hTT, S⟩ := I
  have S' : St C' γ { w with drawn := w.drawn + 1 } a.tmps sl ob :=
    { S with chg := ⟨S.chg.os, S.chg.tape, S.chg.output, S.chg.size, S.chg.block⟩ }
  obtain ⟨os, y, y', g1, g2, g3, g4⟩ := draw_run (C := C') (by rw [hE, hf]) (by rw [hG, hg]) hro ⟨hrov, trivial⟩ (by rw [hf, hg]; exact hΦ) (fun o ho t ht => (hd o ho t ht).1) (x := (sl, ob)) ⟨a, γ, w, hs, S⟩ hord H (P.follows .mixedOrders) t
  exact run_wpInF hF hT hE hG hro hrov hΦ ops hd _ os a γ _ (sl, ob) y' g1 hs ⟨C', hf, hg, hTT, S'⟩ g2 (fun a' γ' w' h3 h4 => by
    obtain ⟨C2, q1, q2, q3, q4⟩ := h4
    exact ⟨h3, .norm, y.1, y.2, γ', r, rfl, g4, C2, q1, q2, hT _ _ _ _ _ (fun _ n m e => by rw [g3.1]; exact e) q3, q4.eqX g3⟩)
end
end
end Go.Proofs.Ytnkapponcbgbhaa
