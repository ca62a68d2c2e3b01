/-
  A region whose order is drawn comes to what it comes to in its text's order.
-/
import Derived.Test.YtcimkkcajkmfoaaDoorDrawB
import Derived.Test.YtcimkkcajkmfoaaDoorHeadA
set_option linter.all false
namespace Go.Proofs.YtcimkkcajkmfoaaDoor
open Go

section
variable {P : Program} {E : Env} {C : Ctx} {Φ : Sem'} {ops : Array Oper}
/-- The operations l, one behind the other, each coming to objects through what A tells. -/
def RunT (P : Program) (E : Env) (Φ : Sem') (ops : Array Oper) (A : Nat → List PV) : List Nat → SL × OB → SL × OB → Prop
  | [], x, y => EqX x y
  | i :: l, x, y => ∃ o x1, ops[i]? = some o ∧ accs E x.1 o.op = A i ∧ stepA P E Φ ops o x = some x1 ∧ RunT P E Φ ops A l x1 y
theorem RunT.resp (hro : ∀ f, E.ro f = false) (hrov : E.rov = false) {A : Nat → List PV} : ∀ {l : List Nat} {x x' y : SL × OB}, EqX x x' → RunT P E Φ ops A l x y → RunT P E Φ ops A l x' y
  | [], x, x', y, h, H => h.symm.trans H
  | i :: l, x, x', y, h, ⟨o, x1, h1, h2, h3, h4⟩ => by
    obtain ⟨g1, x1', g2, g3⟩ := stepA_resp hro hrov h h3
    exact ⟨o, x1', h1, by rw [← g1]; exact h2, g2, RunT.resp hro hrov g3 h4⟩
/-- May two stand in either order, i ahead in the text? -/
def Free (P : Program) (E : Env) (ops : Array Oper) (A : Nat → List PV) (i j : Nat) : Prop :=
  ∀ oi oj, ops[i]? = some oi → ops[j]? = some oj → slotsOK ops oj oi = true ∧ clash P E oi.op oj.op < 2 ∧ (clash P E oi.op oj.op = 1 → dis (A i) (A j) = some ())
theorem idx_high {i j : Nat} : ∀ {l1 l2 : List Nat}, j ∉ l1 → j ≠ i → l1.length < idx (l1 ++ i :: l2) j
  | [], l2, _, h => by simp only [List.nil_append, idx, List.length_nil]; rw [if_neg (fun e => h e.symm)]; omega
  | a :: l1, l2, hj, h => by
    simp only [List.mem_cons, not_or] at hj
    simp only [List.cons_append, idx, List.length_cons]
    rw [if_neg (fun e => hj.1 e.symm)]
    have := idx_high (l1 := l1) (l2 := l2) hj.2 h
    omega
theorem idx_del {i j : Nat} (h : j ≠ i) : ∀ {l1 l2 : List Nat}, (j ∈ l1 → idx (l1 ++ l2) j = idx (l1 ++ i :: l2) j) ∧ (j ∉ l1 → idx (l1 ++ i :: l2) j = idx (l1 ++ l2) j + 1)
  | [], l2 => ⟨fun h => (by cases h), fun _ => by simp only [List.nil_append, idx]; rw [if_neg (fun e => h e.symm)]⟩
  | a :: l1, l2 => by
    obtain ⟨h1, h2⟩ := idx_del (i := i) (j := j) h (l1 := l1) (l2 := l2)
    simp only [List.cons_append, idx, List.mem_cons, not_or]
    by_cases e : a = j
    · simp [e]
    · rw [if_neg e, if_neg e]
      refine ⟨fun hj => ?_, fun hj => ?_⟩
      · rw [h1 (hj.resolve_left (fun e' => e e'.symm))]
      · rw [h2 hj.2]
theorem idx_less {i j k : Nat} {l1 l2 : List Nat} (hj : j ≠ i) (hk : k ≠ i) (h : idx (l1 ++ l2) j < idx (l1 ++ l2) k) : idx (l1 ++ i :: l2) j < idx (l1 ++ i :: l2) k := by
  obtain ⟨a1, a2⟩ := idx_del (i := i) hj (l1 := l1) (l2 := l2)
  obtain ⟨b1, b2⟩ := idx_del (i := i) hk (l1 := l1) (l2 := l2)
  by_cases e1 : j ∈ l1
  · by_cases e2 : k ∈ l1
    · rw [← a1 e1, ← b1 e2]; exact h
    · have := idx_mem (r := i :: l2) e1
      have := idx_high (l2 := l2) e2 hk
      omega
  · by_cases e2 : k ∈ l1
    · have := b1 e2
      have := a2 e1
      have := idx_mem (r := l2) e2
      have := idx_high (l2 := l2) e1 hj
      omega
    · have := a2 e1; have := b2 e2; omega
/-- To a list of operations. -/
theorem RunT.run (hro : ∀ f, E.ro f = false) (hrov : E.rov = false) {A : Nat → List PV} : ∀ {l : List Nat} {x y : SL × OB}, RunT P E Φ ops A l x y → ∃ os y', l.map (ops[·]?) = os.map some ∧ runA P E Φ ops os x = some y' ∧ EqX y' y
  | [], x, y, H => ⟨[], x, rfl, rfl, H⟩
  | i :: l, x, y, ⟨o, x1, h1, _, h3, h4⟩ => by
    obtain ⟨os, y', g1, g2, g3⟩ := RunT.run hro hrov h4
    exact ⟨o :: os, y', by simp [h1, g1], by simp only [runA, h3]; exact g2, g3⟩
/-- What the reading of the text's order tells. -/
theorem denOps_tr {pr : List (Nat × Nat)} {K : SL → OB → Option R} {r : R} : ∀ (os : List Oper) (j : Nat) (tr : List (Nat × List PV)) (x : SL × OB), (∀ k : Nat, k < os.length → ops[j + k]? = os[k]?) → denOps P E Φ ops pr K j tr os x.1 x.2 = some r →
    ∃ (A : Nat → List PV) (y : SL × OB), (∀ i, i < j → A i = look tr i) ∧ RunT P E Φ ops A (List.range' j os.length) x y ∧ K y.1 y.2 = some r ∧ ∀ i k, j ≤ k → k < j + os.length → i < k → i ∈ earlier pr k → dis (A i) (A k) = some ()
  | [], j, tr, x, _, H => ⟨look tr, x, fun _ _ => rfl, EqX.refl x, H, fun i k h1 h2 => by simp at h2; omega⟩
  | o :: os, j, tr, x, ho, H => by
    simp only [denOps] at H
    obtain ⟨H, h1⟩ := disK_some H
    obtain ⟨x1, h2, H⟩ := denI_step H
    obtain ⟨A, y, g1, g2, g3, g4⟩ := denOps_tr os (j + 1) ((j, accs E x.1 o.op) :: tr) x1 (fun k hk => by
      have := ho (k + 1) (by simp; omega)
      rw [show j + (k + 1) = j + 1 + k by omega] at this
      simpa using this) H
    have hj : A j = accs E x.1 o.op := by rw [g1 j (by omega)]; simp [look]
    have hlt : ∀ i, i < j → A i = look tr i := fun i hi => by rw [g1 i (by omega)]; simp only [look]; rw [if_neg (by omega)]
    refine ⟨A, y, hlt, ?_, g3, fun i k hk1 hk2 hik hin => ?_⟩
    · rw [List.length_cons, List.range'_succ]
      have := ho 0 (by simp)
      exact ⟨o, x1, by simpa using this, hj.symm, h2, g2⟩
    · by_cases e : k = j
      · subst e
        rw [hj, hlt i hik]
        exact h1 i hin
      · exact g4 i k (by omega) (by simp at hk2; omega) hik hin
theorem earlier_mem {pr : List (Nat × Nat)} {i k : Nat} (h : (i, k) ∈ pr) : i ∈ earlier pr k := List.mem_filterMap.2 ⟨(i, k), h, by simp⟩
theorem pairs_mem {i j : Nat} {oi oj : Oper} (hij : i < j) (hi : ops[i]? = some oi) (hj : ops[j]? = some oj) (hb : ((Region.before ops).getD j 0).testBit i = false) (hc : clash P E oi.op oj.op = 1) : (i, j) ∈ pairs P E ops := by
  unfold pairs
  simp only
  have hz : ∀ (k : Nat) (o : Oper), ops[k]? = some o → (o, k) ∈ ops.toList.zipIdx := fun k o h => by
    rw [List.mk_mem_zipIdx_iff_getElem?]; simpa using h
  refine List.mem_flatMap.2 ⟨(oj, j), hz j oj hj, List.mem_filterMap.2 ⟨(oi, i), hz i oi hi, ?_⟩⟩
  rw [Array.getD_eq_getD_getElem?] at hb
  simp [hij, hb, hc]
theorem ord_free {A : Nat → List PV} (hord : ordOK P E ops = true) (hdis : ∀ i k, k < ops.size → i < k → i ∈ earlier (pairs P E ops) k → dis (A i) (A k) = some ()) {i j : Nat} (hij : i < j) (hb : ((Region.before ops).getD j 0).testBit i = false) : Free P E ops A i j := by
  intro oi oj hi hj
  unfold ordOK at hord
  simp only [Bool.and_eq_true, List.all_eq_true] at hord
  have hz : ∀ (k : Nat) (o : Oper), ops[k]? = some o → (o, k) ∈ ops.toList.zipIdx := fun k o h => by
    rw [List.mk_mem_zipIdx_iff_getElem?]; simpa using h
  have h1 := (hord.2 (oj, j) (hz j oj hj)).2 (oi, i) (hz i oi hi)
  simp only [hij, decide_true, Bool.not_true, Bool.false_or, hb, Bool.and_eq_true, decide_eq_true_eq] at h1
  refine ⟨h1.2, h1.1, fun hc => ?_⟩
  have hlt : j < ops.size := (Array.getElem?_eq_some_iff.1 hj).1
  exact hdis i j hlt hij (earlier_mem (pairs_mem hij hi hj hb hc))
variable (hE : E.fid = C.fid) (hG : E.glob = C.glob) (hro : ∀ f, E.ro f = false) (hrov : E.rov = false) (hΦ : Sound P C.fid C.glob Φ) {N : Nat} (hd : ∀ o ∈ ops.toList, ∀ t, o.dst = some t → t < N)
include hE hG hro hrov hΦ hd
theorem RunT.pull {A : Nat → List PV} {i : Nat} {oi : Oper} (hi : ops[i]? = some oi) : ∀ {l1 l2 : List Nat} {x x1 y : SL × OB}, Hyp C N x → accs E x.1 oi.op = A i → stepA P E Φ ops oi x = some x1 → RunT P E Φ ops A (l1 ++ l2) x1 y → (∀ j ∈ l1, Free P E ops A i j) → RunT P E Φ ops A (l1 ++ i :: l2) x y
  | [], l2, x, x1, y, _, h1, h2, h3, _ => ⟨oi, x1, hi, h1, h2, h3⟩
  | j :: l1, l2, x, x1, y, hy, h1, h2, ⟨oj, x2, g1, g2, g3, g4⟩, hf => by
    obtain ⟨f1, f2, f3⟩ := hf j (by simp) oi oj hi g1
    obtain ⟨x1', x2', k1, k2, k3, k4, k5⟩ := swap_steps hro hrov hy f1 f2 (fun hc => by rw [h1, g2]; exact f3 hc) h2 g3
    have hmem : oj ∈ ops.toList := by rw [Array.mem_toList_iff]; exact Array.mem_of_getElem? g1
    have hy' := hy.step hE hG hro hrov hΦ (hd oj hmem) k1
    exact ⟨oj, x1', g1, by rw [k2]; exact g2, k1, RunT.pull hi hy' (k3.trans h1) k4 (RunT.resp hro hrov k5.symm g4) (fun j' hj' => hf j' (List.mem_cons_of_mem _ hj'))⟩
theorem RunT.perm {A : Nat → List PV} : ∀ {T l : List Nat} {x y : SL × OB}, Hyp C N x → RunT P E Φ ops A T x y → l.Nodup → T.Nodup → (∀ i, i ∈ l ↔ i ∈ T) → (∀ i j, i ∈ T → j ∈ T → idx T i < idx T j → idx l j < idx l i → Free P E ops A i j) → RunT P E Φ ops A l x y
  | [], l, x, y, _, H, _, _, hm, _ => by
    have : l = [] := by
      cases l with
      | nil => rfl
      | cons a r => have := (hm a).1 (by simp); cases this
    subst this; exact H
  | i :: T, l, x, y, hy, ⟨oi, x1, h1, h2, h3, h4⟩, hl, hT, hm, hf => by
    obtain ⟨l1, l2, rfl⟩ := List.append_of_mem ((hm i).2 (by simp))
    have hmem : oi ∈ ops.toList := by rw [Array.mem_toList_iff]; exact Array.mem_of_getElem? h1
    have hy' := hy.step hE hG hro hrov hΦ (hd oi hmem) h3
    obtain ⟨a1, a2, a3⟩ := List.nodup_append.1 hl
    obtain ⟨a4, a5⟩ := List.nodup_cons.1 a2
    obtain ⟨b1, b2⟩ := List.nodup_cons.1 hT
    have hi1 : i ∉ l1 := fun h => a3 i h i (by simp) rfl
    have hmem' : ∀ j, j ∈ l1 ++ l2 ↔ j ∈ T := by
      intro j
      have hmj := hm j
      simp only [List.mem_append, List.mem_cons] at hmj ⊢
      constructor
      · intro h
        have hne : j ≠ i := fun e => by subst e; exact h.elim hi1 a4
        exact (hmj.1 (h.imp id .inr)).resolve_left hne
      · intro h
        have hne : j ≠ i := fun e => by subst e; exact b1 h
        exact (hmj.2 (.inr h)).imp id (fun h => h.resolve_left hne)
    have shift : ∀ j, j ∈ T → idx (i :: T) j = idx T j + 1 := fun j hj => by
      simp only [idx]; rw [if_neg (fun e => b1 (by rw [e]; exact hj))]
    have h5 : RunT P E Φ ops A (l1 ++ l2) x1 y := by
      refine RunT.perm hy' h4 ?_ b2 hmem' ?_
      · exact List.nodup_append.2 ⟨a1, a5, fun p hp q hq => a3 p hp q (List.mem_cons_of_mem _ hq)⟩
      · intro j k hj hk hlt hlt2
        have hji : j ≠ i := fun e => by subst e; exact b1 hj
        have hki : k ≠ i := fun e => by subst e; exact b1 hk
        exact hf j k (List.mem_cons_of_mem _ hj) (List.mem_cons_of_mem _ hk) (by rw [shift j hj, shift k hk]; omega) (idx_less hki hji hlt2)
    refine RunT.pull hE hG hro hrov hΦ hd h1 hy h2 h3 h5 (fun j hj => ?_)
    have hjT : j ∈ T := (hmem' j).1 (List.mem_append_left _ hj)
    refine hf i j (by simp) (List.mem_cons_of_mem _ hjT) ?_ ?_
    · rw [shift j hjT]; simp [idx]
    · rw [idx_at hi1]; exact idx_mem hj
theorem draw_run {x : SL × OB} {r : R} {K : SL → OB → Option R} (hy : Hyp C N x) (hord : ordOK P E ops = true) (H : denOps P E Φ ops (pairs P E ops) K 0 [] ops.toList x.1 x.2 = some r) (mixed : Bool) (t : Nat) :
    ∃ os y y', (Region.schedule mixed ops t).map (ops[·]?) = os.map some ∧ runA P E Φ ops os x = some y' ∧ EqX y' y ∧ K y.1 y.2 = some r := by
  obtain ⟨A, y, _, h2, h3, h4⟩ := denOps_tr (ops := ops) ops.toList 0 [] x (fun k hk => by simp) H
  have hord' := hord
  unfold ordOK at hord'
  simp only [Bool.and_eq_true, List.all_eq_true, Bool.or_eq_true, Bool.not_eq_true', beq_iff_eq] at hord'
  have hz : ∀ (k : Nat) (o : Oper), ops[k]? = some o → (o, k) ∈ ops.toList.zipIdx := fun k o h => by
    rw [List.mk_mem_zipIdx_iff_getElem?]; simpa using h
  obtain ⟨md, hfull⟩ := sched_full (ops := ops) (fun j o hj e he => by
    have := (hord'.2 (o, j) (hz j o hj)).1.2
    rw [Array.all_eq_true_iff_forall_mem] at this
    have := this e he
    simp only [Bool.or_eq_true, decide_eq_true_eq] at this
    refine this.imp id fun h => ?_
    split at h
    · rename_i r hr; exact ⟨r, hr⟩
    · cases h) hord'.1 mixed t
  have hsize : ops.toList.length = ops.size := by simp
  rw [hsize] at h2 h4
  have hT : (List.range' 0 ops.size).Nodup := List.nodup_range'
  have h5 := RunT.perm hE hG hro hrov hΦ hd (l := Region.schedule mixed ops t) hy h2 hfull.nd hT (fun i => by
    simp only [List.mem_range'_1, Nat.zero_add, Nat.zero_le, true_and]
    exact ⟨hfull.lt i, hfull.all i⟩) (fun i j hi hj hlt hlt2 => by
    have hi : i < ops.size := by simpa using hi
    have hj : j < ops.size := by simpa using hj
    rw [idx_range _ _ _ (Nat.zero_le _) (by omega), idx_range _ _ _ (Nat.zero_le _) (by omega)] at hlt
    refine ord_free hord (fun i k hk hik hin => h4 i k (Nat.zero_le _) (by omega) hik hin) (by omega) ?_
    cases hb : ((Region.before ops).getD j 0).testBit i
    · rfl
    · have := hfull.prec (j + 1) i j (by omega) hj hb
      omega)
  obtain ⟨os, y', g1, g2, g3⟩ := RunT.run hro hrov h5
  exact ⟨os, y, y', g1, g2, g3, h3⟩
end
end Go.Proofs.YtcimkkcajkmfoaaDoor
