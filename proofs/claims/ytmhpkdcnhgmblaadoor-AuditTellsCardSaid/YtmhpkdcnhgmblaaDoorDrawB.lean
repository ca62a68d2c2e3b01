import Derived.Test.YtmhpkdcnhgmblaaDoorLocC
import Derived.OrdersIn
import Derived.Test.YtmhpkdcnhgmblaaDoorHeadA
import Derived.RangeFuncIn
import Derived.RangeFuncSeq
import Derived.RangeFuncOwn
import Derived.RangeFuncCalls
set_option linter.all false
namespace Go.Proofs.YtmhpkdcnhgmblaaDoor
section
open Go
theorem idx_mem : ∀ {l r : List Nat} {i : Nat}, i ∈ l → idx (l ++ r) i < l.length
  | x :: l, r, i, h => by
    simp only [List.cons_append, idx, List.length_cons]
    by_cases e : x = i
    · rw [if_pos e]; omega
    · rw [if_neg e]
      have := idx_mem (l := l) (r := r) ((List.mem_cons.1 h).resolve_left (fun e' => e e'.symm))
      omega
theorem idx_at : ∀ {l r : List Nat} {i : Nat}, i ∉ l → idx (l ++ i :: r) i = l.length
  | [], r, i, _ => by simp [idx]
  | x :: l, r, i, h => by
    simp only [List.mem_cons, not_or] at h
    simp only [List.cons_append, idx, List.length_cons]
    rw [if_neg (fun e => h.1 e.symm), idx_at h.2]
theorem pig : ∀ (n : Nat) (l : List Nat), l.Nodup → (∀ i ∈ l, i < n) → l.length ≤ n ∧ (l.length = n → ∀ i, i < n → i ∈ l)
  | 0, l, _, hl => by
    have : l = [] := by
      cases l with
      | nil => rfl
      | cons x r => exact absurd (hl x (by simp)) (by omega)
    subst this
    exact ⟨Nat.le_refl _, fun _ i hi => by omega⟩
  | n + 1, l, hn, hl => by
    by_cases hin : n ∈ l
    · have h1 := pig n (l.erase n) (hn.erase n) (fun i hi => by
        have hi' := (hn.mem_erase_iff).1 hi
        have := hl i hi'.2
        have := hi'.1
        omega)
      rw [List.length_erase_of_mem hin] at h1
      have hpos := List.length_pos_of_mem hin
      refine ⟨by omega, fun hlen i hi => ?_⟩
      by_cases e : i = n
      · subst e; exact hin
      · exact List.mem_of_mem_erase (h1.2 (by omega) i (by omega))
    · have h1 := pig n l hn (fun i hi => by
        have := hl i hi
        have : i ≠ n := fun e => hin (e ▸ hi)
        omega)
      exact ⟨by omega, fun hlen => by omega⟩
section
variable {md : Region.Mode} {ops : Array Oper}
def Ord (md : Region.Mode) (ops : Array Oper) : Array Bool → List Nat → Prop
  | _, [] => True
  | listed, i :: l => i ∈ Region.ready md ops listed ∧ Ord md ops (listed.setIfInBounds i true) l
theorem getD_tt {listed : Array Bool} {i : Nat} (h : i < listed.size) : listed.getD i true = listed.getD i false := by simp [h]
theorem Ord.nodup : ∀ {l : List Nat} {listed : Array Bool}, Ord md ops listed l → (∀ i ∈ l, listed.getD i true = false) ∧ l.Nodup
  | [], listed, _ => ⟨fun i h => (by cases h), List.nodup_nil⟩
  | i :: l, listed, h => by
    obtain ⟨h1, h2⟩ := h
    obtain ⟨g1, g2⟩ := Ord.nodup h2
    have hi := (mem_ready.1 h1).1
    have hnot : i ∉ l := fun hin => by
      have := g1 i hin
      have hlt : i < listed.size := by
        rcases Nat.lt_or_ge i listed.size with h' | h'
        · exact h'
        · simp [Array.getElem?_eq_none h'] at hi
      simp [hlt] at this
    refine ⟨fun j hj => ?_, List.nodup_cons.2 ⟨hnot, g2⟩⟩
    rcases List.mem_cons.1 hj with rfl | hj
    · exact hi
    · have := g1 j hj
      rwa [getD_set_ne true (fun e : i = j => hnot (by rw [e]; exact hj))] at this
theorem Ord.edges : ∀ {l : List Nat} {listed : Array Bool}, Ord md ops listed l → ∀ i ∈ l, ∃ o, ops[i]? = some o ∧ ∀ e ∈ o.after, Region.binds md e = true → listed.getD e.on false = true ∨ (e.on ∈ l ∧ idx l e.on < idx l i)
  | [], listed, _, i, hi => by cases hi
  | i0 :: l, listed, h, i, hi => by
    have hnd := (Ord.nodup h).2
    obtain ⟨h1, h2⟩ := h
    by_cases e0 : i0 = i
    · subst e0
      obtain ⟨_, o, ho, hall⟩ := mem_ready.1 h1
      exact ⟨o, ho, fun e he hb => .inl (hall e he hb)⟩
    · have hil := (List.mem_cons.1 hi).resolve_left (fun e => e0 e.symm)
      obtain ⟨o, ho, hall⟩ := Ord.edges h2 i hil
      refine ⟨o, ho, fun e he hb => ?_⟩
      have pos : idx (i0 :: l) i = idx l i + 1 := by simp only [idx]; rw [if_neg e0]
      by_cases e1 : i0 = e.on
      · refine .inr ⟨by simp [e1], ?_⟩
        rw [pos]; simp only [idx]; rw [if_pos e1]; omega
      · rcases hall e he hb with h | ⟨g1, g2⟩
        · rw [getD_set_ne false e1] at h; exact .inl h
        · refine .inr ⟨List.mem_cons_of_mem _ g1, ?_⟩
          rw [pos]; simp only [idx]; rw [if_neg e1]; omega
theorem go_ord : ∀ (fuel t : Nat) (listed : Array Bool), Ord md ops listed (Region.linearise.go md ops fuel t listed [])
  | 0, t, listed => by simp [Region.linearise.go, Ord]
  | fuel + 1, t, listed => by
    simp only [Region.linearise.go]
    change Ord md ops listed (match (Region.ready md ops listed)[t % (Region.ready md ops listed).length]? with
      | some i => Region.linearise.go md ops fuel (t / (Region.ready md ops listed).length) (listed.setIfInBounds i true) [i]
      | none => [].reverse)
    cases hi : (Region.ready md ops listed)[t % (Region.ready md ops listed).length]? with
    | none => simp [Ord]
    | some i =>
      simp only []
      rw [linearise_go_acc, List.reverse_singleton, List.singleton_append]
      exact ⟨List.mem_of_getElem? hi, go_ord fuel _ _⟩
theorem ready_ne {W : List Nat} (hW : ∀ i ∈ W, ∃ o, ops[i]? = some o ∧ ∀ e ∈ o.after, Region.binds md e = true → e.on ∈ W ∧ idx W e.on < idx W i) {listed : Array Bool} (hs : listed.size = ops.size) :
    ∀ (n : Nat) (i : Nat), idx W i < n → i ∈ W → listed.getD i true = false → Region.ready md ops listed ≠ [] := by
  intro n
  induction n with
  | zero => intro i h; omega
  | succ n ih =>
    intro i hn hi hl
    obtain ⟨o, ho, hall⟩ := hW i hi
    by_cases hc : ∀ e ∈ o.after, Region.binds md e = true → listed.getD e.on false = true
    · intro e
      have := mem_ready.2 ⟨hl, o, ho, hc⟩
      rw [e] at this; cases this
    · have ⟨e, he⟩ := Classical.not_forall.1 hc
      have ⟨he1, he2⟩ := Classical.not_imp.1 he
      have ⟨he3, he4⟩ := Classical.not_imp.1 he2
      obtain ⟨g1, g2⟩ := hall e he1 he3
      obtain ⟨o', ho', _⟩ := hW _ g1
      have hlt : e.on < listed.size := by rw [hs]; exact (Array.getElem?_eq_some_iff.1 ho').1
      refine ih e.on (by omega) g1 ?_
      rw [getD_tt hlt]
      cases h : listed.getD e.on false
      · rfl
      · exact absurd h he4
theorem go_all (hne : ∀ listed : Array Bool, listed.size = ops.size → (∃ i, i < ops.size ∧ listed.getD i true = false) → Region.ready md ops listed ≠ []) : ∀ (fuel t : Nat) (listed : Array Bool), listed.size = ops.size →
    (Region.linearise.go md ops fuel t listed []).length = fuel ∨ ∀ i, i < ops.size → listed.getD i true = true ∨ i ∈ Region.linearise.go md ops fuel t listed []
  | 0, t, listed, _ => by simp [Region.linearise.go]
  | fuel + 1, t, listed, hs => by
    simp only [Region.linearise.go]
    change (match (Region.ready md ops listed)[t % (Region.ready md ops listed).length]? with
      | some i => Region.linearise.go md ops fuel (t / (Region.ready md ops listed).length) (listed.setIfInBounds i true) [i]
      | none => [].reverse).length = fuel + 1 ∨ ∀ j, j < ops.size → listed.getD j true = true ∨ j ∈ (match (Region.ready md ops listed)[t % (Region.ready md ops listed).length]? with
      | some i => Region.linearise.go md ops fuel (t / (Region.ready md ops listed).length) (listed.setIfInBounds i true) [i]
      | none => [].reverse)
    cases hi : (Region.ready md ops listed)[t % (Region.ready md ops listed).length]? with
    | none =>
      have hnil : Region.ready md ops listed = [] := by
        cases hr : Region.ready md ops listed with
        | nil => rfl
        | cons x xs =>
          rw [hr] at hi
          have hlt : t % (x :: xs).length < (x :: xs).length := Nat.mod_lt _ (by simp)
          simp at hi
          simp at hlt
          omega
      refine .inr fun i hin => .inl ?_
      cases h : listed.getD i true
      · exact absurd hnil (hne listed hs ⟨i, hin, h⟩)
      · rfl
    | some i =>
      simp only []
      rw [linearise_go_acc, List.reverse_singleton, List.singleton_append]
      rcases go_all hne fuel (t / (Region.ready md ops listed).length) (listed.setIfInBounds i true) (by simp [hs]) with h | h
      · exact .inl (by simp [h])
      · refine .inr fun j hj => ?_
        by_cases e : i = j
        · exact .inr (by simp [e])
        · rcases h j hj with h | h
          · exact .inl (by rwa [getD_set_ne true e] at h)
          · exact .inr (List.mem_cons_of_mem _ h)
structure Full (md : Region.Mode) (ops : Array Oper) (l : List Nat) : Prop where
  nd : l.Nodup
  lt : ∀ i ∈ l, i < ops.size
  all : ∀ i, i < ops.size → i ∈ l
  edge : ∀ i ∈ l, ∃ o, ops[i]? = some o ∧ ∀ e ∈ o.after, Region.binds md e = true → e.on ∈ l ∧ idx l e.on < idx l i
theorem lin_ord (t : Nat) : let l := Region.linearise md ops t; l.Nodup ∧ (∀ i ∈ l, i < ops.size) ∧ ∀ i ∈ l, ∃ o, ops[i]? = some o ∧ ∀ e ∈ o.after, Region.binds md e = true → e.on ∈ l ∧ idx l e.on < idx l i := by
  have ho := go_ord (md := md) (ops := ops) ops.size t (Array.replicate ops.size false)
  change Ord md ops _ (Region.linearise md ops t) at ho
  refine ⟨(Ord.nodup ho).2, fun i hi => ?_, fun i hi => ?_⟩
  · obtain ⟨o, h, _⟩ := Ord.edges ho i hi
    exact (Array.getElem?_eq_some_iff.1 h).1
  · obtain ⟨o, h, hall⟩ := Ord.edges ho i hi
    refine ⟨o, h, fun e he hb => (hall e he hb).resolve_left ?_⟩
    by_cases hl : e.on < ops.size
    · simp [hl]
    · simp [hl]
theorem lin_full (W : List Nat) (hW : ∀ i ∈ W, ∃ o, ops[i]? = some o ∧ ∀ e ∈ o.after, Region.binds md e = true → e.on ∈ W ∧ idx W e.on < idx W i) (hall : ∀ i, i < ops.size → i ∈ W) (t : Nat) : Full md ops (Region.linearise md ops t) := by
  obtain ⟨h1, h2, h3⟩ := lin_ord (md := md) (ops := ops) t
  refine ⟨h1, h2, ?_, h3⟩
  rcases go_all (md := md) (ops := ops) (fun listed hs ⟨i, hi, hl⟩ => ready_ne hW hs _ i (Nat.lt_succ_self _) (hall i hi) hl) ops.size t (Array.replicate ops.size false) (by simp) with h | h
  · exact (pig _ _ h1 h2).2 h
  · intro i hi
    rcases h i hi with h | h
    · simp [hi] at h
    · exact h
theorem idx_range : ∀ (n k i : Nat), k ≤ i → i < k + n → idx (List.range' k n) i = i - k
  | 0, k, i, h1, h2 => by omega
  | n + 1, k, i, h1, h2 => by
    simp only [List.range'_succ, idx]
    by_cases e : k = i
    · rw [if_pos e]; omega
    · rw [if_neg e, idx_range n (k + 1) i (by omega) (by omega)]; omega
theorem sched_full (hok : ∀ (j : Nat) (o : Oper), ops[j]? = some o → ∀ e ∈ o.after, e.on < j ∨ (∃ r, e.ground = .gcOnly r)) (hdep : Region.departs ops = false ∨ (Region.linearise .gc ops 0).length = ops.size) (mixed : Bool) (t : Nat) :
    ∃ md, Full md ops (Region.schedule mixed ops t) := by
  have text : ∀ (md : Region.Mode) t, (∀ e : Edge, (∃ r, e.ground = .gcOnly r) → Region.binds md e = false) → Full md ops (Region.linearise md ops t) := by
    intro md t hmd
    refine lin_full (List.range' 0 ops.size) ?_ (fun i hi => by simp [hi]) t
    intro i hi
    have hi : i < ops.size := by simpa using hi
    refine ⟨ops[i], by simp [hi], fun e he hb => ?_⟩
    rcases hok i _ (by simp [hi]) e he with h | h
    · refine ⟨by simp; omega, ?_⟩
      rw [idx_range _ _ _ (Nat.zero_le _) (by omega), idx_range _ _ _ (Nat.zero_le _) (by omega)]; omega
    · rw [hmd e h] at hb; cases hb
  unfold Region.schedule
  split
  · exact ⟨.any, text .any t (fun e ⟨r, hr⟩ => by simp [Region.binds, hr])⟩
  · rename_i hm
    split
    · exact ⟨.text, text .text _ (fun e ⟨r, hr⟩ => by simp [Region.binds, hr])⟩
    · refine ⟨.gc, lin_full (Region.linearise .gc ops 0) ?_ ?_ _⟩
      · exact (lin_ord 0).2.2
      · have hd : (Region.linearise .gc ops 0).length = ops.size := hdep.resolve_left (fun h => hm (by simp [h]))
        exact (pig _ _ (lin_ord 0).1 (lin_ord 0).2.1).2 hd
def maskOf (o : Oper) (acc : Array Nat) : Nat := o.after.foldl (fun s e => if Region.binds .any e then s ||| 2 ^ e.on ||| acc.getD e.on 0 else s) 0
theorem mask_bit {acc : Array Nat} {i : Nat} : ∀ (l : List Edge) (s : Nat), (l.foldl (fun s e => if Region.binds .any e then s ||| 2 ^ e.on ||| acc.getD e.on 0 else s) s).testBit i = true → s.testBit i = true ∨ ∃ e ∈ l, Region.binds .any e = true ∧ (e.on = i ∨ (acc.getD e.on 0).testBit i = true)
  | [], s, h => .inl h
  | e :: l, s, h => by
    simp only [List.foldl_cons] at h
    rcases mask_bit l _ h with h | ⟨e', h1, h2⟩
    · split at h
      · rename_i hb
        simp only [Nat.testBit_or, Bool.or_eq_true] at h
        rcases h with (h | h) | h
        · exact .inl h
        · refine .inr ⟨e, by simp, hb, .inl ?_⟩
          rw [Nat.testBit_two_pow] at h; simpa using h
        · exact .inr ⟨e, by simp, hb, .inr h⟩
      · exact .inl h
    · exact .inr ⟨e', List.mem_cons_of_mem _ h1, h2⟩
theorem before_go : ∀ (L : List Oper) (acc : Array Nat), let res := L.foldl (fun acc o => acc.push (maskOf o acc)) acc
    (∀ k, k < acc.size → res[k]? = acc[k]?) ∧ ∀ (k : Nat) (o : Oper), L[k]? = some o → ∃ a : Array Nat, a.size = acc.size + k ∧ (∀ m, m < a.size → res[m]? = a[m]?) ∧ res[acc.size + k]? = some (maskOf o a)
  | [], acc => ⟨fun _ _ => rfl, fun k o h => by simp at h⟩
  | o :: L, acc => by
    obtain ⟨h1, h2⟩ := before_go L (acc.push (maskOf o acc))
    simp only [List.foldl_cons]
    refine ⟨fun k hk => ?_, fun k o' hk => ?_⟩
    · rw [h1 k (by simp; omega)]
      rw [Array.getElem?_push]
      rw [if_neg (by omega)]
    · rcases k with _ | k
      · simp at hk; subst hk
        refine ⟨acc, rfl, fun m hm => ?_, ?_⟩
        · rw [h1 m (by simp; omega), Array.getElem?_push, if_neg (by omega)]
        · rw [Nat.add_zero, h1 acc.size (by simp)]; simp
      · obtain ⟨a, g1, g2, g3⟩ := h2 k o' (by simpa using hk)
        refine ⟨a, by rw [g1]; simp; omega, g2, ?_⟩
        rw [show acc.size + (k + 1) = (acc.push (maskOf o acc)).size + k by simp; omega]; exact g3
theorem before_spec {i j : Nat} (hj : j < ops.size) (h : ((Region.before ops).getD j 0).testBit i = true) :
    ∃ e ∈ ops[j].after, Region.binds .any e = true ∧ (e.on = i ∨ (e.on < j ∧ ((Region.before ops).getD e.on 0).testBit i = true)) := by
  have hb : Region.before ops = ops.toList.foldl (fun acc o => acc.push (maskOf o acc)) #[] := by
    unfold Region.before maskOf
    rw [← Array.foldl_toList]
  obtain ⟨_, h2⟩ := before_go ops.toList #[]
  rw [← hb] at h2
  obtain ⟨a, g1, g2, g3⟩ := h2 j ops[j] (by simp [hj])
  have hv : (Region.before ops).getD j 0 = maskOf ops[j] a := by
    have : (Region.before ops)[j]? = some (maskOf ops[j] a) := by simpa using g3
    rw [Array.getD_eq_getD_getElem?, this]; rfl
  rw [hv] at h
  unfold maskOf at h
  rw [← Array.foldl_toList] at h
  rcases mask_bit _ _ h with h | ⟨e, h1, h2, h3⟩
  · simp at h
  · refine ⟨e, by simpa using h1, h2, h3.imp id fun h => ?_⟩
    by_cases hlt : e.on < a.size
    · have : e.on < j := by simpa [g1] using hlt
      refine ⟨this, ?_⟩
      rw [Array.getD_eq_getD_getElem?, g2 e.on hlt, ← Array.getD_eq_getD_getElem?]; exact h
    · rw [Array.getD_eq_getD_getElem?, Array.getElem?_eq_none (by omega)] at h
      simp at h
theorem binds_any {md : Region.Mode} {e : Edge} (h : Region.binds .any e = true) : Region.binds md e = true := by
  unfold Region.binds at h ⊢
  split at h <;> simp_all
theorem Full.prec {l : List Nat} (h : Full md ops l) : ∀ (n i j : Nat), j < n → j < ops.size → ((Region.before ops).getD j 0).testBit i = true → idx l i < idx l j := by
  intro n
  induction n with
  | zero => intro i j hj; omega
  | succ n ih =>
    intro i j hn hj hb
    obtain ⟨e, he, hbd, hc⟩ := before_spec hj hb
    obtain ⟨o, ho, hall⟩ := h.edge j (h.all j hj)
    have : o = ops[j] := by
      have h1 : ops[j]? = some ops[j] := by simp [hj]
      rw [ho] at h1; injection h1
    subst this
    obtain ⟨h1, h2⟩ := hall e he (binds_any hbd)
    rcases hc with rfl | ⟨hc1, hc2⟩
    · exact h2
    · have := ih i e.on (by omega) (h.lt _ h1) hc2
      omega
end
end
section
open Go
section
variable {P : Program} {E : Env} {C : Ctx} {Φ : Sem'} {ops : Array Oper}
def RunT (P : Program) (E : Env) (Φ : Sem') (ops : Array Oper) (A : Nat → List PV) : List Nat → SL × OB → SL × OB → Prop
  | [], x, y => EqX x y
  | i :: l, x, y => ∃ o x1, ops[i]? = some o ∧ accs E x.1 o.op = A i ∧ stepA P E Φ ops o x = some x1 ∧ RunT P E Φ ops A l x1 y
theorem RunT.resp (hro : True) (hrov : E.rov = false ∧ True) {A : Nat → List PV} : ∀ {l : List Nat} {x x' y : SL × OB}, EqX x x' → RunT P E Φ ops A l x y → RunT P E Φ ops A l x' y
  | [], x, x', y, h, H => h.symm.trans H
  | i :: l, x, x', y, h, ⟨o, x1, h1, h2, h3, h4⟩ => by
    obtain ⟨g1, x1', g2, g3⟩ := stepA_resp hro hrov h h3
    exact ⟨o, x1', h1, by rw [← g1]; exact h2, g2, RunT.resp hro hrov g3 h4⟩
def Free (P : Program) (E : Env) (ops : Array Oper) (A : Nat → List PV) (i j : Nat) : Prop :=
  ∀ oi oj, ops[i]? = some oi → ops[j]? = some oj → slotsOK ops oj oi = true ∧ clash P E oi.op oj.op < 2 ∧ (clash P E oi.op oj.op = 1 → dis (cutA E oi.op oj.op (A i)) (cutA E oj.op oi.op (A j)) = some ())
theorem idx_high {i j : Nat} : ∀ {l1 l2 : List Nat}, j ∉ l1 → j ≠ i → l1.length < idx (l1 ++ i :: l2) j
  | [], l2, _, h => by simp only [List.nil_append, idx, List.length_nil]; rw [if_neg (fun e => h e.symm)]; omega
  | a :: l1, l2, hj, h => by
    simp only [List.mem_cons, not_or] at hj
    simp only [List.cons_append, idx, List.length_cons]
    rw [if_neg (fun e => hj.1 e.symm)]
    have := idx_high (l1 := l1) (l2 := l2) hj.2 h
    omega
theorem idx_del {i j : Nat} (h : j ≠ i) : ∀ {l1 l2 : List Nat}, (j ∈ l1 → idx (l1 ++ l2) j = idx (l1 ++ i :: l2) j) ∧ (j ∉ l1 → idx (l1 ++ i :: l2) j = idx (l1 ++ l2) j + 1)
  | [], l2 => ⟨fun h => (by cases h), fun _ => by simp only [List.nil_append, idx]; rw [if_neg (fun e => h e.symm)]⟩
  | a :: l1, l2 => by
    obtain ⟨h1, h2⟩ := idx_del (i := i) (j := j) h (l1 := l1) (l2 := l2)
    simp only [List.cons_append, idx, List.mem_cons, not_or]
    by_cases e : a = j
    · simp [e]
    · rw [if_neg e, if_neg e]
      refine ⟨fun hj => ?_, fun hj => ?_⟩
      · rw [h1 (hj.resolve_left (fun e' => e e'.symm))]
      · rw [h2 hj.2]
theorem idx_less {i j k : Nat} {l1 l2 : List Nat} (hj : j ≠ i) (hk : k ≠ i) (h : idx (l1 ++ l2) j < idx (l1 ++ l2) k) : idx (l1 ++ i :: l2) j < idx (l1 ++ i :: l2) k := by
  obtain ⟨a1, a2⟩ := idx_del (i := i) hj (l1 := l1) (l2 := l2)
  obtain ⟨b1, b2⟩ := idx_del (i := i) hk (l1 := l1) (l2 := l2)
  by_cases e1 : j ∈ l1
  · by_cases e2 : k ∈ l1
    · rw [← a1 e1, ← b1 e2]; exact h
    · have := idx_mem (r := i :: l2) e1
      have := idx_high (l2 := l2) e2 hk
      omega
  · by_cases e2 : k ∈ l1
    · have := b1 e2
      have := a2 e1
      have := idx_mem (r := l2) e2
      have := idx_high (l2 := l2) e1 hj
      omega
    · have := a2 e1; have := b2 e2; omega
theorem RunT.run (hro : True) (hrov : E.rov = false ∧ True) {A : Nat → List PV} : ∀ {l : List Nat} {x y : SL × OB}, RunT P E Φ ops A l x y → ∃ os y', l.map (ops[·]?) = os.map some ∧ runA P E Φ ops os x = some y' ∧ EqX y' y
  | [], x, y, H => ⟨[], x, rfl, rfl, H⟩
  | i :: l, x, y, ⟨o, x1, h1, _, h3, h4⟩ => by
    obtain ⟨os, y', g1, g2, g3⟩ := RunT.run hro hrov h4
    exact ⟨o :: os, y', by simp [h1, g1], by simp only [runA, h3]; exact g2, g3⟩
theorem denOps_tr {pr : List (Nat × Nat)} {K : SL → OB → Option R} {r : R} : ∀ (os : List Oper) (j : Nat) (tr : List (Nat × List PV)) (x : SL × OB), (∀ k : Nat, k < os.length → ops[j + k]? = os[k]?) → denOps P E Φ ops pr K j tr os x.1 x.2 = some r →
    ∃ (A : Nat → List PV) (y : SL × OB), (∀ i, i < j → A i = look tr i) ∧ RunT P E Φ ops A (List.range' j os.length) x y ∧ K y.1 y.2 = some r ∧ ∀ i k, j ≤ k → k < j + os.length → i < k → i ∈ earlier pr k → ∀ ok, ops[k]? = some ok → disP E ops ok.op i (A i) (A k) = some ()
  | [], j, tr, x, _, H => ⟨look tr, x, fun _ _ => rfl, EqX.refl x, H, fun i k h1 h2 => by simp at h2; omega⟩
  | o :: os, j, tr, x, ho, H => by
    simp only [denOps] at H
    obtain ⟨H, h1⟩ := disK_some H
    obtain ⟨x1, h2, H⟩ := denI_step H
    obtain ⟨A, y, g1, g2, g3, g4⟩ := denOps_tr os (j + 1) ((j, accs E x.1 o.op) :: tr) x1 (fun k hk => by
      have := ho (k + 1) (by simp; omega)
      rw [show j + (k + 1) = j + 1 + k by omega] at this
      simpa using this) H
    have hj : A j = accs E x.1 o.op := by rw [g1 j (by omega)]; simp [look]
    have hlt : ∀ i, i < j → A i = look tr i := fun i hi => by rw [g1 i (by omega)]; simp only [look]; rw [if_neg (by omega)]
    refine ⟨A, y, hlt, ?_, g3, fun i k hk1 hk2 hik hin ok hok => ?_⟩
    · rw [List.length_cons, List.range'_succ]
      have := ho 0 (by simp)
      exact ⟨o, x1, by simpa using this, hj.symm, h2, g2⟩
    · by_cases e : k = j
      · subst e
        rw [hj, hlt i hik]
        have h0 := ho 0 (by simp)
        rw [Nat.add_zero, hok] at h0
        injection h0 with h0
        subst h0
        exact h1 i hin
      · exact g4 i k (by omega) (by simp at hk2; omega) hik hin ok hok
theorem earlier_mem {pr : List (Nat × Nat)} {i k : Nat} (h : (i, k) ∈ pr) : i ∈ earlier pr k := List.mem_filterMap.2 ⟨(i, k), h, by simp⟩
theorem pairs_mem {i j : Nat} {oi oj : Oper} (hij : i < j) (hi : ops[i]? = some oi) (hj : ops[j]? = some oj) (hb : ((Region.before ops).getD j 0).testBit i = false) (hc : clash P E oi.op oj.op = 1) : (i, j) ∈ pairs P E ops := by
  unfold pairs
  simp only
  have hz : ∀ (k : Nat) (o : Oper), ops[k]? = some o → (o, k) ∈ ops.toList.zipIdx := fun k o h => by
    rw [List.mk_mem_zipIdx_iff_getElem?]; simpa using h
  refine List.mem_flatMap.2 ⟨(oj, j), hz j oj hj, List.mem_filterMap.2 ⟨(oi, i), hz i oi hi, ?_⟩⟩
  rw [Array.getD_eq_getD_getElem?] at hb
  simp [hij, hb, hc]
theorem ord_free {A : Nat → List PV} (hord : ordOK P E ops = true) (hdis : ∀ i k, k < ops.size → i < k → i ∈ earlier (pairs P E ops) k → ∀ ok, ops[k]? = some ok → disP E ops ok.op i (A i) (A k) = some ()) {i j : Nat} (hij : i < j) (hb : ((Region.before ops).getD j 0).testBit i = false) : Free P E ops A i j := by
  intro oi oj hi hj
  unfold ordOK at hord
  simp only [Bool.and_eq_true, List.all_eq_true] at hord
  have hz : ∀ (k : Nat) (o : Oper), ops[k]? = some o → (o, k) ∈ ops.toList.zipIdx := fun k o h => by
    rw [List.mk_mem_zipIdx_iff_getElem?]; simpa using h
  have h1 := (hord.2 (oj, j) (hz j oj hj)).2 (oi, i) (hz i oi hi)
  simp only [hij, decide_true, Bool.not_true, Bool.false_or, hb, Bool.and_eq_true, decide_eq_true_eq] at h1
  refine ⟨h1.2, h1.1, fun hc => ?_⟩
  have hlt : j < ops.size := (Array.getElem?_eq_some_iff.1 hj).1
  have := hdis i j hlt hij (earlier_mem (pairs_mem hij hi hj hb hc)) oj hj
  simpa only [disP, hi] using this
variable (hE : E.fid = C.fid) (hG : E.glob = C.glob) (hro : True) (hrov : E.rov = false ∧ True) (hΦ : Sound P C.fid C.glob Φ) {N : Nat} (hd : ∀ o ∈ ops.toList, ∀ t, o.dst = some t → t < N)
include hE hG hro hrov hΦ hd
theorem RunT.pull {A : Nat → List PV} {i : Nat} {oi : Oper} (hi : ops[i]? = some oi) : ∀ {l1 l2 : List Nat} {x x1 y : SL × OB}, Hyp C N x → accs E x.1 oi.op = A i → stepA P E Φ ops oi x = some x1 → RunT P E Φ ops A (l1 ++ l2) x1 y → (∀ j ∈ l1, Free P E ops A i j) → RunT P E Φ ops A (l1 ++ i :: l2) x y
  | [], l2, x, x1, y, _, h1, h2, h3, _ => ⟨oi, x1, hi, h1, h2, h3⟩
  | j :: l1, l2, x, x1, y, hy, h1, h2, ⟨oj, x2, g1, g2, g3, g4⟩, hf => by
    obtain ⟨f1, f2, f3⟩ := hf j (by simp) oi oj hi g1
    obtain ⟨x1', x2', k1, k2, k3, k4, k5⟩ := swap_steps hro hrov hy f1 f2 (fun hc => by rw [h1, g2]; exact f3 hc) h2 g3
    have hmem : oj ∈ ops.toList := by rw [Array.mem_toList_iff]; exact Array.mem_of_getElem? g1
    have hy' := hy.step hE hG hro hrov hΦ (hd oj hmem) k1
    exact ⟨oj, x1', g1, by rw [k2]; exact g2, k1, RunT.pull hi hy' (k3.trans h1) k4 (RunT.resp hro hrov k5.symm g4) (fun j' hj' => hf j' (List.mem_cons_of_mem _ hj'))⟩
theorem RunT.perm {A : Nat → List PV} : ∀ {T l : List Nat} {x y : SL × OB}, Hyp C N x → RunT P E Φ ops A T x y → l.Nodup → T.Nodup → (∀ i, i ∈ l ↔ i ∈ T) → (∀ i j, i ∈ T → j ∈ T → idx T i < idx T j → idx l j < idx l i → Free P E ops A i j) → RunT P E Φ ops A l x y
  | [], l, x, y, _, H, _, _, hm, _ => by
    have : l = [] := by
      cases l with
      | nil => rfl
      | cons a r => have := (hm a).1 (by simp); cases this
    subst this; exact H
  | i :: T, l, x, y, hy, ⟨oi, x1, h1, h2, h3, h4⟩, hl, hT, hm, hf => by
    obtain ⟨l1, l2, rfl⟩ := List.append_of_mem ((hm i).2 (by simp))
    have hmem : oi ∈ ops.toList := by rw [Array.mem_toList_iff]; exact Array.mem_of_getElem? h1
    have hy' := hy.step hE hG hro hrov hΦ (hd oi hmem) h3
    obtain ⟨a1, a2, a3⟩ := List.nodup_append.1 hl
    obtain ⟨a4, a5⟩ := List.nodup_cons.1 a2
    obtain ⟨b1, b2⟩ := List.nodup_cons.1 hT
    have hi1 : i ∉ l1 := fun h => a3 i h i (by simp) rfl
    have hmem' : ∀ j, j ∈ l1 ++ l2 ↔ j ∈ T := by
      intro j
      have hmj := hm j
      simp only [List.mem_append, List.mem_cons] at hmj ⊢
      constructor
      · intro h
        have hne : j ≠ i := fun e => by subst e; exact h.elim hi1 a4
        exact (hmj.1 (h.imp id .inr)).resolve_left hne
      · intro h
        have hne : j ≠ i := fun e => by subst e; exact b1 h
        exact (hmj.2 (.inr h)).imp id (fun h => h.resolve_left hne)
    have shift : ∀ j, j ∈ T → idx (i :: T) j = idx T j + 1 := fun j hj => by
      simp only [idx]; rw [if_neg (fun e => b1 (by rw [e]; exact hj))]
    have h5 : RunT P E Φ ops A (l1 ++ l2) x1 y := by
      refine RunT.perm hy' h4 ?_ b2 hmem' ?_
      · exact List.nodup_append.2 ⟨a1, a5, fun p hp q hq => a3 p hp q (List.mem_cons_of_mem _ hq)⟩
      · intro j k hj hk hlt hlt2
        have hji : j ≠ i := fun e => by subst e; exact b1 hj
        have hki : k ≠ i := fun e => by subst e; exact b1 hk
        exact hf j k (List.mem_cons_of_mem _ hj) (List.mem_cons_of_mem _ hk) (by rw [shift j hj, shift k hk]; omega) (idx_less hki hji hlt2)
    refine RunT.pull hE hG hro hrov hΦ hd h1 hy h2 h3 h5 (fun j hj => ?_)
    have hjT : j ∈ T := (hmem' j).1 (List.mem_append_left _ hj)
    refine hf i j (by simp) (List.mem_cons_of_mem _ hjT) ?_ ?_
    · rw [shift j hjT]; simp [idx]
    · rw [idx_at hi1]; exact idx_mem hj
theorem draw_run {x : SL × OB} {r : R} {K : SL → OB → Option R} (hy : Hyp C N x) (hord : ordOK P E ops = true) (H : denOps P E Φ ops (pairs P E ops) K 0 [] ops.toList x.1 x.2 = some r) (mixed : Bool) (t : Nat) :
    ∃ os y y', (Region.schedule mixed ops t).map (ops[·]?) = os.map some ∧ runA P E Φ ops os x = some y' ∧ EqX y' y ∧ K y.1 y.2 = some r := by
  obtain ⟨A, y, _, h2, h3, h4⟩ := denOps_tr (ops := ops) ops.toList 0 [] x (fun k hk => by simp) H
  have hord' := hord
  unfold ordOK at hord'
  simp only [Bool.and_eq_true, List.all_eq_true, Bool.or_eq_true, Bool.not_eq_true', beq_iff_eq] at hord'
  have hz : ∀ (k : Nat) (o : Oper), ops[k]? = some o → (o, k) ∈ ops.toList.zipIdx := fun k o h => by
    rw [List.mk_mem_zipIdx_iff_getElem?]; simpa using h
  obtain ⟨md, hfull⟩ := sched_full (ops := ops) (fun j o hj e he => by
    have := (hord'.2 (o, j) (hz j o hj)).1.2
    rw [Array.all_eq_true_iff_forall_mem] at this
    have := this e he
    simp only [Bool.or_eq_true, decide_eq_true_eq] at this
    refine this.imp id fun h => ?_
    split at h
    · rename_i r hr; exact ⟨r, hr⟩
    · cases h) hord'.1 mixed t
  have hsize : ops.toList.length = ops.size := by simp
  rw [hsize] at h2 h4
  have hT : (List.range' 0 ops.size).Nodup := List.nodup_range'
  have h5 := RunT.perm hE hG hro hrov hΦ hd (l := Region.schedule mixed ops t) hy h2 hfull.nd hT (fun i => by
    simp only [List.mem_range'_1, Nat.zero_add, Nat.zero_le, true_and]
    exact ⟨hfull.lt i, hfull.all i⟩) (fun i j hi hj hlt hlt2 => by
    have hi : i < ops.size := by simpa using hi
    have hj : j < ops.size := by simpa using hj
    rw [idx_range _ _ _ (Nat.zero_le _) (by omega), idx_range _ _ _ (Nat.zero_le _) (by omega)] at hlt
    refine ord_free hord (fun i k hk hik hin => h4 i k (Nat.zero_le _) (by omega) hik hin) (by omega) ?_
    cases hb : ((Region.before ops).getD j 0).testBit i
    · rfl
    · have := hfull.prec (j + 1) i j (by omega) hj hb
      omega)
  obtain ⟨os, y', g1, g2, g3⟩ := RunT.run hro hrov h5
  exact ⟨os, y, y', g1, g2, g3, h3⟩
end
end
section
open Go
def ownB (γ : Gh) (b : Nat) : Prop := ∃ o i, γ.mu o = some i ∧ i.blk = some b
def Ctx.re (C : Ctx) (γ : Gh) (w : World) (kp : Nat → Prop) : Ctx := { C with w0 := w, A := ownB γ, g0 := γ, kp := kp }
structure Ext (C C' : Ctx) : Prop where
  fid : C'.fid = C.fid
  glob : C'.glob = C.glob
  gn : C'.gn = C.gn
  kp : ∀ k, C.kp k → C'.kp k
  chg : Chg (fun b => C.A b ∨ C.w0.heap.size ≤ b) C.w0 C'.w0
  A : ∀ b, C'.A b → C.A b ∨ C.w0.heap.size ≤ b
  kept : ∀ k i, C.kp k → C.g0.mu k = some i → ∃ i', C'.g0.mu k = some i' ∧ (i' = i ∨ i.ver < i'.ver)
  imk : ∀ b, C.g0.im b → C'.g0.im b ∧ C'.w0.heap[b]? = C.w0.heap[b]?
  imn : ∀ b, C'.g0.im b → C.g0.im b ∨ (C.A b ∨ C.w0.heap.size ≤ b)
  place : ∀ o j b, o < 64 → C'.g0.mu o = some j → j.blk = some b → (∃ j, C.g0.mu o = some j ∧ j.blk = some b) ∨ C.N b
  N : C'.N = C.N
  gnew : ∀ b, C.A b ∨ C.w0.heap.size ≤ b → C.gn b
  fresh : ∀ b, C.w0.heap.size ≤ b → C.N b
theorem Ext.refl' {C : Ctx} {γ : Gh} {w : World} {tmps : Array Value} {sl : SL} {ob : OB} (S : St C γ w tmps sl ob) : Ext C C :=
  ⟨rfl, rfl, rfl, fun _ h => h, Chg.refl _ _, fun _ h => .inl h, fun _ i _ h => ⟨i, h, .inl rfl⟩, fun _ h => ⟨h, rfl⟩, fun _ h => .inl h, fun _ j _ _ h hb => .inl ⟨j, h, hb⟩, rfl, S.gnew, S.fresh⟩
section
variable {C C' : Ctx} {γ : Gh} {w w' : World} {tmps : Array Value} {sl : SL} {ob : OB}
theorem Ext.new (X : Ext C C') {b : Nat} (h : C'.A b ∨ C'.w0.heap.size ≤ b) : C.A b ∨ C.w0.heap.size ≤ b := by
  rcases h with h | h
  · exact X.A b h
  · exact .inr (Nat.le_trans X.chg.size h)
theorem St.unext (X : Ext C C') (S : St C' γ w tmps sl ob) : St C γ w tmps sl ob := by
  constructor
  · rw [← X.fid]; exact S.slot
  · rw [← X.fid]; exact S.obj
  · exact S.dom
  · exact S.inj
  · exact S.unf
  · exact fun o i b hi hb => X.new (S.own o i b hi hb)
  · exact S.lt
  · rw [← X.glob]; exact S.glob
  · exact X.chg.trans ⟨S.chg.os, S.chg.tape, S.chg.output, S.chg.size, fun k hk hA => S.chg.block k hk (fun h => hA (X.new h))⟩
  · rw [← X.gn]; exact S.gn
  · exact X.gnew
  · intro k i hk hi
    obtain ⟨i1, h1, h2⟩ := X.kept k i hk hi
    obtain ⟨i2, h3, h4⟩ := S.kept k i1 (X.kp k hk) h1
    refine ⟨i2, h3, ?_⟩
    rcases h2 with rfl | h2
    · exact h4
    · rcases h4 with rfl | h4
      · exact .inr h2
      · exact .inr (by omega)
  · intro b hb
    obtain ⟨h1, h2⟩ := X.imk b hb
    obtain ⟨h3, h4⟩ := S.imk b h1
    exact ⟨h3, h4.trans h2⟩
  · intro b hb
    rcases S.imn b hb with h | h
    · exact X.imn b h
    · exact .inr (X.new h)
  · intro o i b hi hb
    rcases S.place o i b hi hb with ⟨h1, j, h2, h3⟩ | h
    · rcases X.place o j b h1 h2 h3 with h | h
      · exact .inl ⟨h1, h⟩
      · exact .inr h
    · exact .inr (X.N ▸ h)
  · exact X.fresh
theorem St.rebase (S : St C γ w tmps sl ob) (kp : Nat → Prop) {Q : Nat → Prop} (hc : Chg Q w w') (hq : ∀ b, b < w.heap.size → Q b → ¬ γ.im b ∧ ¬ ownB γ b) : St (C.re γ w' kp) γ w' tmps sl ob := by
  have him : ∀ b, γ.im b → w'.heap[b]? = w.heap[b]? := fun b hb => hc.block b (S.lt b hb) (fun h => (hq b (S.lt b hb) h).1 hb)
  have how : ∀ o i b, γ.mu o = some i → i.blk = some b → w'.heap[b]? = w.heap[b]? := fun o i b hi hb => hc.block b (blk_lt S hi hb) (fun h => (hq b (blk_lt S hi hb) h).2 ⟨o, i, hi, hb⟩)
  have mv : ∀ T, Mv γ γ w.heap w'.heap T (fun o => o) := fun T => ⟨fun o _ i hi => ⟨i, hi, .inl rfl⟩, fun g b hb => ⟨hb, him b hb.1⟩⟩
  constructor
  · exact fun t => RAt_mono (mv _) (S.slot t)
  · intro o x hx
    obtain ⟨i, h1, h2⟩ := S.obj o x hx
    exact ⟨i, h1, ORel_mono (mv _) (fun b hb => how o i b h1 hb) h2⟩
  · exact S.dom
  · exact S.inj
  · exact S.unf
  · exact fun o i b hi hb => .inl ⟨o, i, hi, hb⟩
  · exact fun b hb => Nat.lt_of_lt_of_le (S.lt b hb) hc.size
  · intro g xs hg
    obtain ⟨h1, cs, h2, h3⟩ := S.glob g xs hg
    exact ⟨h1, cs, h2.keep (him g h1.1), PCells_mono (fun b hb => ⟨hb, him b hb.1⟩) _ _ _ h3⟩
  · exact Chg.refl _ _
  · exact S.gn
  · rintro b (⟨o, i, hi, hb⟩ | h)
    · exact S.gnew b (S.own o i b hi hb)
    · exact S.gnew b (.inr (Nat.le_trans S.chg.size (Nat.le_trans hc.size h)))
  · exact fun k i _ hi => ⟨i, hi, .inl rfl⟩
  · exact fun b hb => ⟨hb, rfl⟩
  · exact fun b hb => .inl hb
  · intro o i b hi hb
    rcases S.place o i b hi hb with ⟨h1, _⟩ | h
    · exact .inl ⟨h1, i, hi, hb⟩
    · exact .inr h
  · exact fun b hb => S.fresh b (Nat.le_trans S.chg.size (Nat.le_trans hc.size hb))
theorem Ext.rebase (X : Ext C C') (S : St C' γ w tmps sl ob) {kp : Nat → Prop} (hkp : ∀ k, C.kp k → kp k) {Q : Nat → Prop} (hc : Chg Q w w') (hQ : ∀ b, b < C.w0.heap.size → Q b → C.A b) (hq : ∀ b, b < w.heap.size → Q b → ¬ γ.im b ∧ ¬ ownB γ b) : Ext C (C'.re γ w' kp) := by
  have S0 := S.unext X
  refine ⟨X.fid, X.glob, X.gn, hkp, ?_, ?_, ?_, ?_, ?_, ?_, X.N, X.gnew, X.fresh⟩
  · refine S0.chg.trans ⟨hc.os, hc.tape, hc.output, hc.size, fun k hk hA => hc.block k hk (fun h => hA ?_)⟩
    by_cases hlt : k < C.w0.heap.size
    · exact .inl (hQ k hlt h)
    · exact .inr (by omega)
  · rintro b ⟨o, i, hi, hb⟩
    exact S0.own o i b hi hb
  · exact fun k i hk hi => S0.kept k i hk hi
  · intro b hb
    obtain ⟨h1, h2⟩ := S0.imk b hb
    exact ⟨h1, (hc.block b (S.lt b h1) (fun h => (hq b (S.lt b h1) h).1 h1)).trans h2⟩
  · exact fun b hb => S0.imn b hb
  · intro o j b ho hj hb
    rcases S0.place o j b hj hb with ⟨_, h⟩ | h
    · exact .inl h
    · exact .inr h
theorem St.same (S : St C γ w tmps sl ob) {Q : Nat → Prop} (hc : Chg Q w w') (hQ : ∀ b, b < C.w0.heap.size → Q b → C.A b) (hq : ∀ b, b < w.heap.size → Q b → ¬ γ.im b ∧ ¬ ownB γ b) : St C γ w' tmps sl ob :=
  (S.rebase C.kp hc hq).unext ((Ext.refl' S).rebase S (fun _ h => h) hc hQ hq)
theorem St.moreIm (S : St C γ w tmps sl ob) {I : Nat → Prop} (h1 : ∀ b, I b → b < w.heap.size) (h2 : ∀ o x i b, getO ob o = some x → x.fro = false → γ.mu o = some i → i.blk = some b → ¬ I b) (h3 : ∀ b, I b → C.g0.im b ∨ (C.A b ∨ C.w0.heap.size ≤ b)) : St C { γ with im := fun b => γ.im b ∨ I b } w tmps sl ob := by
  have mv : ∀ T, Mv γ { γ with im := fun b => γ.im b ∨ I b } w.heap w.heap T (fun o => o) := fun T => ⟨fun o _ i hi => ⟨i, hi, .inl rfl⟩, fun g b hb => ⟨⟨.inl hb.1, hb.2⟩, rfl⟩⟩
  constructor
  · exact fun t => RAt_mono (mv _) (S.slot t)
  · intro o x hx
    obtain ⟨i, g1, g2⟩ := S.obj o x hx
    exact ⟨i, g1, ORel_mono (mv _) (fun _ _ => rfl) g2⟩
  · exact S.dom
  · exact S.inj
  · rintro o x i b hx hf hi hb (h | h)
    · exact S.unf o x i b hx hf hi hb h
    · exact h2 o x i b hx hf hi hb h
  · exact S.own
  · rintro b (h | h)
    · exact S.lt b h
    · exact h1 b h
  · intro g xs hg
    obtain ⟨g1, cs, g2, g3⟩ := S.glob g xs hg
    exact ⟨⟨.inl g1.1, g1.2⟩, cs, g2, PCells_mono (fun b hb => ⟨⟨.inl hb.1, hb.2⟩, rfl⟩) _ _ _ g3⟩
  · exact S.chg
  · exact S.gn
  · exact S.gnew
  · exact S.kept
  · intro b hb
    exact ⟨.inl (S.imk b hb).1, (S.imk b hb).2⟩
  · rintro b (h | h)
    · exact S.imn b h
    · exact h3 b h
  · exact S.place
  · exact S.fresh
theorem St.slots (S : St C γ w tmps sl ob) {tmps' : Array Value} {sl' : SL} (h : ∀ t, RV C.fid γ w.heap (tmps'.getD t undef) (getS sl' t)) : St C γ w tmps' sl' ob :=
  { S with slot := h }
end
end
section
open Go
def exitOf : Out → Exit
  | .norm => .normal
  | .exit id => .exit id
  | .goto l => .goto l
  | .ret => .ret
def Wd (F : Fence) : Prop := F = Fence.wide ∨ ∃ l, F = Fence.wide.inRound l
theorem Wd.fn {F : Fence} (h : Wd F) (f : FuncId) : F.fn f := by
  rcases h with rfl | ⟨l, rfl⟩ <;> exact trivial
theorem Wd.depth {F : Fence} (h : Wd F) : ¬ F.depth.isSome = true := by
  rcases h with rfl | ⟨l, rfl⟩ <;> simp [Fence.wide]
theorem Wd.calls {F : Fence} (h : Wd F) {n : Nat} {P : Program} {f : FuncId} {args : Array Value} {w : World} {R : Ending → World → Prop} (hc : Calls P f args w R) : CallsIn F n P f args w R := by
  rcases h with rfl | ⟨l, rfl⟩
  · exact callsIn_wide.2 hc
  · exact CallsIn.inRound l (callsIn_wide.2 hc)
abbrev KeepT := Ctx → List Deferred → R → SL → Prop
def Inv (C : Ctx) (T : KeepT) (r : R) (γ : Gh) (w : World) (a : Act) (sl : SL) (ob : OB) : Prop :=
  ∃ C', C'.fid = C.fid ∧ C'.glob = C.glob ∧ T C' a.defers r sl ∧ St C' γ w a.tmps sl ob
def Post (C : Ctx) (T : KeepT) (n : Nat) (K : Kont) : Exit → Act → World → Prop := fun e a w =>
  a.tmps.size = n ∧ ∃ o sl ob γ r, exitOf o = e ∧ K o sl ob = some r ∧ Inv C T r γ w a sl ob
def SlotOK (yp : Bool) (T : KeepT) : Prop := ∀ C' ds r sl sl', (yp = true → ∀ n m, getS sl' tslot = .y 1 n m → getS sl tslot = .y 1 n m) → T C' ds r sl → T C' ds r sl'
section
variable {P : Program} {E : Env} {C : Ctx} {F : Fence}
theorem runs_wpInF (hF : Wd F) {n : Nat} {o : Oper} {a : Act} {w : World} {Post : Value → World → Prop} {next : Act → World → Prop} {Q : Exit → Act → World → Prop} (hnd : ∀ c, o.op ≠ .defer c) (H : Runs P a.eval o w Post) (hn : ∀ x w', Post x w' → next (a.put o.dst x) w') : o.wpIn F n P a w next Q := by
  refine ⟨fun f _ => hF.fn f, ?_⟩
  have hs : o.semAt F.round a.eval = execOp a.eval o := Oper.semAt_eq _ _ _ hnd
  rw [hs]
  rcases H with ⟨x, w', h1, h2⟩ | ⟨w', h1, h2⟩ | ⟨f, args, w', h1, h2⟩
  · rw [h1]; exact hn _ _ h2
  · rw [h1]; exact hn _ _ h2
  · rw [h1]
    refine ⟨fun h => absurd h hF.depth, ?_⟩
    refine CallsIn.mono (hF.calls h2) ?_
    rintro e w'' ⟨v, rfl, hp⟩
    exact hn _ _ hp
theorem stepA_slot {Φ : Sem'} {ops : Array Oper} {o : Oper} {x y : SL × OB} (hd : o.dst ≠ some tslot) (H : stepA P E Φ ops o x = some y) : getS y.1 tslot = getS x.1 tslot := by
  have key : ∀ v, getS (putS o.dst v x.1) tslot = getS x.1 tslot := by
    intro v
    cases h : o.dst with
    | none => rfl
    | some t => simp only [putS, getS_cons]; rw [if_neg (fun e => hd (by rw [h, e]))]
  unfold stepA at H
  split at H
  · cases H
  · cases hA : opA P E Φ x.1 x.2 (nid o.dst) o.op with
    | none => simp [hA] at H
    | some r => simp only [hA, Option.map_some, Option.some.injEq] at H; subst H; exact key _
  · injection H with H; subst H; exact key _
theorem no_defer {Φ : Sem'} {sl : SL} {ob : OB} {d : Nat} {o : Op} {r : Up} (H : opA P E Φ sl ob d o = some r) : ∀ c, o ≠ .defer c := by
  rintro c rfl
  simp [opA, opV, opP, opO] at H
theorem op_wpInF (hF : Wd F) {T : KeepT} (hT : SlotOK E.yp T) (hE : E.fid = C.fid) (hG : E.glob = C.glob) (hro : True) (hrov : E.rov = false) {Φ : Sem'} (hΦ : Sound P C.fid C.glob Φ) {ops : Array Oper} {o : Oper} {N n : Nat} (hd : ∀ t, o.dst = some t → t < N ∧ (E.yp = true → t < tslot)) {r : R} {γ : Gh} {w : World} {a : Act} {x y : SL × OB}
    (hs : a.tmps.size = N) (I : Inv C T r γ w a x.1 x.2) (H : stepA P E Φ ops o x = some y) {next : Act → World → Prop} {Q : Exit → Act → World → Prop} (hn : ∀ a' γ' w', a'.tmps.size = N → Inv C T r γ' w' a' y.1 y.2 → next a' w') :
    if Region.wanted o (yielded ops a.tmps) = true then o.wpIn F n P a w next Q else next (a.put o.dst undef) w := by
  obtain ⟨C', hf, hg, hTT, S⟩ := I
  have hd' : ∀ t, o.dst = some t → t < a.tmps.size := fun t ht => by rw [hs]; exact (hd t ht).1
  have hT' : T C' a.defers r y.1 := by
    refine hT _ _ _ _ _ (fun hy n m h => ?_) hTT
    rw [← stepA_slot (fun e => Nat.lt_irrefl _ ((hd _ e).2 hy)) H]; exact h
  rcases step_ok (by rw [hE, hf]) (by rw [hG, hg]) hro hrov S (by rw [hf, hg]; exact hΦ) hd' H with ⟨h1, h2⟩ | ⟨h1, h2⟩
  · rw [if_pos h1]
    have hnd : ∀ c, o.op ≠ .defer c := by
      unfold stepA at H
      split at H
      · cases H
      · cases hA : opA P E Φ x.1 x.2 (nid o.dst) o.op with
        | none => simp [hA] at H
        | some r => exact no_defer hA
      · rename_i hw
        rw [want_ok S hw] at h1; cases h1
    refine runs_wpInF hF hnd h2 ?_
    rintro v w' ⟨γ', S'⟩
    exact hn _ γ' w' (by rw [put_size]; exact hs) ⟨C', hf, hg, by cases o.dst <;> exact hT', S'⟩
  · rw [if_neg (by rw [h1]; simp)]
    exact hn _ γ w (by rw [put_size]; exact hs) ⟨C', hf, hg, by cases o.dst <;> exact hT', h2⟩
theorem run_wpInF (hF : Wd F) {T : KeepT} (hT : SlotOK E.yp T) {Q : Exit → Act → World → Prop} {n N : Nat} (hE : E.fid = C.fid) (hG : E.glob = C.glob) (hro : True) (hrov : E.rov = false) {Φ : Sem'} (hΦ : Sound P C.fid C.glob Φ) (ops : Array Oper) (hd : ∀ o ∈ ops.toList, ∀ t, o.dst = some t → t < N ∧ (E.yp = true → t < tslot)) {r : R} :
    ∀ (l : List Nat) (os : List Oper) (a : Act) (γ : Gh) (w : World) (x y : SL × OB), l.map (ops[·]?) = os.map some → a.tmps.size = N → Inv C T r γ w a x.1 x.2 → runA P E Φ ops os x = some y →
      (∀ a' γ' w', a'.tmps.size = N → Inv C T r γ' w' a' y.1 y.2 → Q .normal a' w') → wpOpsIn F n P ops Q l a w
  | [], os, a, γ, w, x, y, hl, hs, I, H, hQ => by
    cases os with
    | nil => simp only [runA, Option.some.injEq] at H; subst H; exact hQ a γ w hs I
    | cons o r => simp at hl
  | i :: l, os, a, γ, w, x, y, hl, hs, I, H, hQ => by
    cases os with
    | nil => simp at hl
    | cons o rest =>
      simp only [List.map_cons, List.cons.injEq] at hl
      obtain ⟨hi, hl⟩ := hl
      simp only [runA] at H
      split at H
      · rename_i z hz
        have hmem : o ∈ ops.toList := by
          rw [Array.mem_toList_iff]; exact Array.mem_of_getElem? hi
        simp only [wpOpsIn, hi]
        have := op_wpInF (n := n) hF hT hE hG hro hrov hΦ (hd o hmem) hs I hz (next := fun a w => wpOpsIn F n P ops Q l a w) (Q := Q) (fun a' γ' w' h1 h2 => run_wpInF hF hT hE hG hro hrov hΦ ops hd l rest a' γ' w' z y hl h1 h2 H hQ)
        split
        · rename_i h1; rw [if_pos h1] at this; exact this
        · rename_i h1; rw [if_neg h1] at this; exact ⟨fun f _ => hF.fn f, this⟩
      · cases H
end
end
end Go.Proofs.YtmhpkdcnhgmblaaDoor
