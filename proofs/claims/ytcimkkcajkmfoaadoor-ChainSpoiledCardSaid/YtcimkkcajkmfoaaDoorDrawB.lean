/-
  In which orders a region's operations come up.
-/
import Derived.Test.YtcimkkcajkmfoaaDoorDrawA
import Derived.OrdersIn
set_option linter.all false
namespace Go.Proofs.YtcimkkcajkmfoaaDoor
open Go

/-! ### Places in a list -/
theorem idx_mem : ∀ {l r : List Nat} {i : Nat}, i ∈ l → idx (l ++ r) i < l.length
  | x :: l, r, i, h => by
    simp only [List.cons_append, idx, List.length_cons]
    by_cases e : x = i
    · rw [if_pos e]; omega
    · rw [if_neg e]
      have := idx_mem (l := l) (r := r) ((List.mem_cons.1 h).resolve_left (fun e' => e e'.symm))
      omega
theorem idx_at : ∀ {l r : List Nat} {i : Nat}, i ∉ l → idx (l ++ i :: r) i = l.length
  | [], r, i, _ => by simp [idx]
  | x :: l, r, i, h => by
    simp only [List.mem_cons, not_or] at h
    simp only [List.cons_append, idx, List.length_cons]
    rw [if_neg (fun e => h.1 e.symm), idx_at h.2]
theorem pig : ∀ (n : Nat) (l : List Nat), l.Nodup → (∀ i ∈ l, i < n) → l.length ≤ n ∧ (l.length = n → ∀ i, i < n → i ∈ l)
  | 0, l, _, hl => by
    have : l = [] := by
      cases l with
      | nil => rfl
      | cons x r => exact absurd (hl x (by simp)) (by omega)
    subst this
    exact ⟨Nat.le_refl _, fun _ i hi => by omega⟩
  | n + 1, l, hn, hl => by
    by_cases hin : n ∈ l
    · have h1 := pig n (l.erase n) (hn.erase n) (fun i hi => by
        have hi' := (hn.mem_erase_iff).1 hi
        have := hl i hi'.2
        have := hi'.1
        omega)
      rw [List.length_erase_of_mem hin] at h1
      have hpos := List.length_pos_of_mem hin
      refine ⟨by omega, fun hlen i hi => ?_⟩
      by_cases e : i = n
      · subst e; exact hin
      · exact List.mem_of_mem_erase (h1.2 (by omega) i (by omega))
    · have h1 := pig n l hn (fun i hi => by
        have := hl i hi
        have : i ≠ n := fun e => hin (e ▸ hi)
        omega)
      exact ⟨by omega, fun hlen => by omega⟩

/-! ### Orders -/
section
variable {md : Region.Mode} {ops : Array Oper}
/-- Each is ready when it comes. -/
def Ord (md : Region.Mode) (ops : Array Oper) : Array Bool → List Nat → Prop
  | _, [] => True
  | listed, i :: l => i ∈ Region.ready md ops listed ∧ Ord md ops (listed.setIfInBounds i true) l
theorem set_size {listed : Array Bool} {i : Nat} : (listed.setIfInBounds i true).size = listed.size := by simp
theorem getD_tt {listed : Array Bool} {i : Nat} (h : i < listed.size) : listed.getD i true = listed.getD i false := by simp [h]
theorem Ord.nodup : ∀ {l : List Nat} {listed : Array Bool}, Ord md ops listed l → (∀ i ∈ l, listed.getD i true = false) ∧ l.Nodup
  | [], listed, _ => ⟨fun i h => (by cases h), List.nodup_nil⟩
  | i :: l, listed, h => by
    obtain ⟨h1, h2⟩ := h
    obtain ⟨g1, g2⟩ := Ord.nodup h2
    have hi := (mem_ready.1 h1).1
    have hnot : i ∉ l := fun hin => by
      have := g1 i hin
      have hlt : i < listed.size := by
        rcases Nat.lt_or_ge i listed.size with h' | h'
        · exact h'
        · simp [Array.getElem?_eq_none h'] at hi
      simp [hlt] at this
    refine ⟨fun j hj => ?_, List.nodup_cons.2 ⟨hnot, g2⟩⟩
    rcases List.mem_cons.1 hj with rfl | hj
    · exact hi
    · have := g1 j hj
      rwa [getD_set_ne true (fun e : i = j => hnot (by rw [e]; exact hj))] at this
theorem Ord.edges : ∀ {l : List Nat} {listed : Array Bool}, Ord md ops listed l → ∀ i ∈ l, ∃ o, ops[i]? = some o ∧ ∀ e ∈ o.after, Region.binds md e = true → listed.getD e.on false = true ∨ (e.on ∈ l ∧ idx l e.on < idx l i)
  | [], listed, _, i, hi => by cases hi
  | i0 :: l, listed, h, i, hi => by
    have hnd := (Ord.nodup h).2
    obtain ⟨h1, h2⟩ := h
    by_cases e0 : i0 = i
    · subst e0
      obtain ⟨_, o, ho, hall⟩ := mem_ready.1 h1
      exact ⟨o, ho, fun e he hb => .inl (hall e he hb)⟩
    · have hil := (List.mem_cons.1 hi).resolve_left (fun e => e0 e.symm)
      obtain ⟨o, ho, hall⟩ := Ord.edges h2 i hil
      refine ⟨o, ho, fun e he hb => ?_⟩
      have pos : idx (i0 :: l) i = idx l i + 1 := by simp only [idx]; rw [if_neg e0]
      by_cases e1 : i0 = e.on
      · refine .inr ⟨by simp [e1], ?_⟩
        rw [pos]; simp only [idx]; rw [if_pos e1]; omega
      · rcases hall e he hb with h | ⟨g1, g2⟩
        · rw [getD_set_ne false e1] at h; exact .inl h
        · refine .inr ⟨List.mem_cons_of_mem _ g1, ?_⟩
          rw [pos]; simp only [idx]; rw [if_neg e1]; omega
theorem go_ord : ∀ (fuel t : Nat) (listed : Array Bool), Ord md ops listed (Region.linearise.go md ops fuel t listed [])
  | 0, t, listed => by simp [Region.linearise.go, Ord]
  | fuel + 1, t, listed => by
    simp only [Region.linearise.go]
    change Ord md ops listed (match (Region.ready md ops listed)[t % (Region.ready md ops listed).length]? with
      | some i => Region.linearise.go md ops fuel (t / (Region.ready md ops listed).length) (listed.setIfInBounds i true) [i]
      | none => [].reverse)
    cases hi : (Region.ready md ops listed)[t % (Region.ready md ops listed).length]? with
    | none => simp [Ord]
    | some i =>
      simp only []
      rw [linearise_go_acc, List.reverse_singleton, List.singleton_append]
      exact ⟨List.mem_of_getElem? hi, go_ord fuel _ _⟩
/-- With an order in which all can come, one is ready as long as any is left. -/
theorem ready_ne {W : List Nat} (hW : ∀ i ∈ W, ∃ o, ops[i]? = some o ∧ ∀ e ∈ o.after, Region.binds md e = true → e.on ∈ W ∧ idx W e.on < idx W i) {listed : Array Bool} (hs : listed.size = ops.size) :
    ∀ (n : Nat) (i : Nat), idx W i < n → i ∈ W → listed.getD i true = false → Region.ready md ops listed ≠ [] := by
  intro n
  induction n with
  | zero => intro i h; omega
  | succ n ih =>
    intro i hn hi hl
    obtain ⟨o, ho, hall⟩ := hW i hi
    by_cases hc : ∀ e ∈ o.after, Region.binds md e = true → listed.getD e.on false = true
    · intro e
      have := mem_ready.2 ⟨hl, o, ho, hc⟩
      rw [e] at this; cases this
    · have ⟨e, he⟩ := Classical.not_forall.1 hc
      have ⟨he1, he2⟩ := Classical.not_imp.1 he
      have ⟨he3, he4⟩ := Classical.not_imp.1 he2
      obtain ⟨g1, g2⟩ := hall e he1 he3
      obtain ⟨o', ho', _⟩ := hW _ g1
      have hlt : e.on < listed.size := by rw [hs]; exact (Array.getElem?_eq_some_iff.1 ho').1
      refine ih e.on (by omega) g1 ?_
      rw [getD_tt hlt]
      cases h : listed.getD e.on false
      · rfl
      · exact absurd h he4
theorem go_all (hne : ∀ listed : Array Bool, listed.size = ops.size → (∃ i, i < ops.size ∧ listed.getD i true = false) → Region.ready md ops listed ≠ []) : ∀ (fuel t : Nat) (listed : Array Bool), listed.size = ops.size →
    (Region.linearise.go md ops fuel t listed []).length = fuel ∨ ∀ i, i < ops.size → listed.getD i true = true ∨ i ∈ Region.linearise.go md ops fuel t listed []
  | 0, t, listed, _ => by simp [Region.linearise.go]
  | fuel + 1, t, listed, hs => by
    simp only [Region.linearise.go]
    change (match (Region.ready md ops listed)[t % (Region.ready md ops listed).length]? with
      | some i => Region.linearise.go md ops fuel (t / (Region.ready md ops listed).length) (listed.setIfInBounds i true) [i]
      | none => [].reverse).length = fuel + 1 ∨ ∀ j, j < ops.size → listed.getD j true = true ∨ j ∈ (match (Region.ready md ops listed)[t % (Region.ready md ops listed).length]? with
      | some i => Region.linearise.go md ops fuel (t / (Region.ready md ops listed).length) (listed.setIfInBounds i true) [i]
      | none => [].reverse)
    cases hi : (Region.ready md ops listed)[t % (Region.ready md ops listed).length]? with
    | none =>
      have hnil : Region.ready md ops listed = [] := by
        cases hr : Region.ready md ops listed with
        | nil => rfl
        | cons x xs =>
          rw [hr] at hi
          have hlt : t % (x :: xs).length < (x :: xs).length := Nat.mod_lt _ (by simp)
          simp at hi
          simp at hlt
          omega
      refine .inr fun i hin => .inl ?_
      cases h : listed.getD i true
      · exact absurd hnil (hne listed hs ⟨i, hin, h⟩)
      · rfl
    | some i =>
      simp only []
      rw [linearise_go_acc, List.reverse_singleton, List.singleton_append]
      rcases go_all hne fuel (t / (Region.ready md ops listed).length) (listed.setIfInBounds i true) (by simp [hs]) with h | h
      · exact .inl (by simp [h])
      · refine .inr fun j hj => ?_
        by_cases e : i = j
        · exact .inr (by simp [e])
        · rcases h j hj with h | h
          · exact .inl (by rwa [getD_set_ne true e] at h)
          · exact .inr (List.mem_cons_of_mem _ h)
/-- An order in which all come. -/
structure Full (md : Region.Mode) (ops : Array Oper) (l : List Nat) : Prop where
  nd : l.Nodup
  lt : ∀ i ∈ l, i < ops.size
  all : ∀ i, i < ops.size → i ∈ l
  edge : ∀ i ∈ l, ∃ o, ops[i]? = some o ∧ ∀ e ∈ o.after, Region.binds md e = true → e.on ∈ l ∧ idx l e.on < idx l i
theorem lin_ord (t : Nat) : let l := Region.linearise md ops t; l.Nodup ∧ (∀ i ∈ l, i < ops.size) ∧ ∀ i ∈ l, ∃ o, ops[i]? = some o ∧ ∀ e ∈ o.after, Region.binds md e = true → e.on ∈ l ∧ idx l e.on < idx l i := by
  have ho := go_ord (md := md) (ops := ops) ops.size t (Array.replicate ops.size false)
  change Ord md ops _ (Region.linearise md ops t) at ho
  refine ⟨(Ord.nodup ho).2, fun i hi => ?_, fun i hi => ?_⟩
  · obtain ⟨o, h, _⟩ := Ord.edges ho i hi
    exact (Array.getElem?_eq_some_iff.1 h).1
  · obtain ⟨o, h, hall⟩ := Ord.edges ho i hi
    refine ⟨o, h, fun e he hb => (hall e he hb).resolve_left ?_⟩
    by_cases hl : e.on < ops.size
    · simp [hl]
    · simp [hl]
theorem lin_full (W : List Nat) (hW : ∀ i ∈ W, ∃ o, ops[i]? = some o ∧ ∀ e ∈ o.after, Region.binds md e = true → e.on ∈ W ∧ idx W e.on < idx W i) (hall : ∀ i, i < ops.size → i ∈ W) (t : Nat) : Full md ops (Region.linearise md ops t) := by
  obtain ⟨h1, h2, h3⟩ := lin_ord (md := md) (ops := ops) t
  refine ⟨h1, h2, ?_, h3⟩
  rcases go_all (md := md) (ops := ops) (fun listed hs ⟨i, hi, hl⟩ => ready_ne hW hs _ i (Nat.lt_succ_self _) (hall i hi) hl) ops.size t (Array.replicate ops.size false) (by simp) with h | h
  · exact (pig _ _ h1 h2).2 h
  · intro i hi
    rcases h i hi with h | h
    · simp [hi] at h
    · exact h
theorem idx_range : ∀ (n k i : Nat), k ≤ i → i < k + n → idx (List.range' k n) i = i - k
  | 0, k, i, h1, h2 => by omega
  | n + 1, k, i, h1, h2 => by
    simp only [List.range'_succ, idx]
    by_cases e : k = i
    · rw [if_pos e]; omega
    · rw [if_neg e, idx_range n (k + 1) i (by omega) (by omega)]; omega
/-- The ways in which the order of a region may be drawn. -/
theorem sched_full (hok : ∀ (j : Nat) (o : Oper), ops[j]? = some o → ∀ e ∈ o.after, e.on < j ∨ (∃ r, e.ground = .gcOnly r)) (hdep : Region.departs ops = false ∨ (Region.linearise .gc ops 0).length = ops.size) (mixed : Bool) (t : Nat) :
    ∃ md, Full md ops (Region.schedule mixed ops t) := by
  have text : ∀ (md : Region.Mode) t, (∀ e : Edge, (∃ r, e.ground = .gcOnly r) → Region.binds md e = false) → Full md ops (Region.linearise md ops t) := by
    intro md t hmd
    refine lin_full (List.range' 0 ops.size) ?_ (fun i hi => by simp [hi]) t
    intro i hi
    have hi : i < ops.size := by simpa using hi
    refine ⟨ops[i], by simp [hi], fun e he hb => ?_⟩
    rcases hok i _ (by simp [hi]) e he with h | h
    · refine ⟨by simp; omega, ?_⟩
      rw [idx_range _ _ _ (Nat.zero_le _) (by omega), idx_range _ _ _ (Nat.zero_le _) (by omega)]; omega
    · rw [hmd e h] at hb; cases hb
  unfold Region.schedule
  split
  · exact ⟨.any, text .any t (fun e ⟨r, hr⟩ => by simp [Region.binds, hr])⟩
  · rename_i hm
    split
    · exact ⟨.text, text .text _ (fun e ⟨r, hr⟩ => by simp [Region.binds, hr])⟩
    · refine ⟨.gc, lin_full (Region.linearise .gc ops 0) ?_ ?_ _⟩
      · exact (lin_ord 0).2.2
      · have hd : (Region.linearise .gc ops 0).length = ops.size := hdep.resolve_left (fun h => hm (by simp [h]))
        exact (pig _ _ (lin_ord 0).1 (lin_ord 0).2.1).2 hd

/-! ### What stands before what -/
def maskOf (o : Oper) (acc : Array Nat) : Nat := o.after.foldl (fun s e => if Region.binds .any e then s ||| 2 ^ e.on ||| acc.getD e.on 0 else s) 0
theorem mask_bit {acc : Array Nat} {i : Nat} : ∀ (l : List Edge) (s : Nat), (l.foldl (fun s e => if Region.binds .any e then s ||| 2 ^ e.on ||| acc.getD e.on 0 else s) s).testBit i = true → s.testBit i = true ∨ ∃ e ∈ l, Region.binds .any e = true ∧ (e.on = i ∨ (acc.getD e.on 0).testBit i = true)
  | [], s, h => .inl h
  | e :: l, s, h => by
    simp only [List.foldl_cons] at h
    rcases mask_bit l _ h with h | ⟨e', h1, h2⟩
    · split at h
      · rename_i hb
        simp only [Nat.testBit_or, Bool.or_eq_true] at h
        rcases h with (h | h) | h
        · exact .inl h
        · refine .inr ⟨e, by simp, hb, .inl ?_⟩
          rw [Nat.testBit_two_pow] at h; simpa using h
        · exact .inr ⟨e, by simp, hb, .inr h⟩
      · exact .inl h
    · exact .inr ⟨e', List.mem_cons_of_mem _ h1, h2⟩
theorem before_go : ∀ (L : List Oper) (acc : Array Nat), let res := L.foldl (fun acc o => acc.push (maskOf o acc)) acc
    (∀ k, k < acc.size → res[k]? = acc[k]?) ∧ ∀ (k : Nat) (o : Oper), L[k]? = some o → ∃ a : Array Nat, a.size = acc.size + k ∧ (∀ m, m < a.size → res[m]? = a[m]?) ∧ res[acc.size + k]? = some (maskOf o a)
  | [], acc => ⟨fun _ _ => rfl, fun k o h => by simp at h⟩
  | o :: L, acc => by
    obtain ⟨h1, h2⟩ := before_go L (acc.push (maskOf o acc))
    simp only [List.foldl_cons]
    refine ⟨fun k hk => ?_, fun k o' hk => ?_⟩
    · rw [h1 k (by simp; omega)]
      rw [Array.getElem?_push]
      rw [if_neg (by omega)]
    · rcases k with _ | k
      · simp at hk; subst hk
        refine ⟨acc, rfl, fun m hm => ?_, ?_⟩
        · rw [h1 m (by simp; omega), Array.getElem?_push, if_neg (by omega)]
        · rw [Nat.add_zero, h1 acc.size (by simp)]; simp
      · obtain ⟨a, g1, g2, g3⟩ := h2 k o' (by simpa using hk)
        refine ⟨a, by rw [g1]; simp; omega, g2, ?_⟩
        rw [show acc.size + (k + 1) = (acc.push (maskOf o acc)).size + k by simp; omega]; exact g3
theorem before_spec {i j : Nat} (hj : j < ops.size) (h : ((Region.before ops).getD j 0).testBit i = true) :
    ∃ e ∈ ops[j].after, Region.binds .any e = true ∧ (e.on = i ∨ (e.on < j ∧ ((Region.before ops).getD e.on 0).testBit i = true)) := by
  have hb : Region.before ops = ops.toList.foldl (fun acc o => acc.push (maskOf o acc)) #[] := by
    unfold Region.before maskOf
    rw [← Array.foldl_toList]
  obtain ⟨_, h2⟩ := before_go ops.toList #[]
  rw [← hb] at h2
  obtain ⟨a, g1, g2, g3⟩ := h2 j ops[j] (by simp [hj])
  have hv : (Region.before ops).getD j 0 = maskOf ops[j] a := by
    have : (Region.before ops)[j]? = some (maskOf ops[j] a) := by simpa using g3
    rw [Array.getD_eq_getD_getElem?, this]; rfl
  rw [hv] at h
  unfold maskOf at h
  rw [← Array.foldl_toList] at h
  rcases mask_bit _ _ h with h | ⟨e, h1, h2, h3⟩
  · simp at h
  · refine ⟨e, by simpa using h1, h2, h3.imp id fun h => ?_⟩
    by_cases hlt : e.on < a.size
    · have : e.on < j := by simpa [g1] using hlt
      refine ⟨this, ?_⟩
      rw [Array.getD_eq_getD_getElem?, g2 e.on hlt, ← Array.getD_eq_getD_getElem?]; exact h
    · rw [Array.getD_eq_getD_getElem?, Array.getElem?_eq_none (by omega)] at h
      simp at h
theorem binds_any {md : Region.Mode} {e : Edge} (h : Region.binds .any e = true) : Region.binds md e = true := by
  unfold Region.binds at h ⊢
  split at h <;> simp_all
theorem Full.prec {l : List Nat} (h : Full md ops l) : ∀ (n i j : Nat), j < n → j < ops.size → ((Region.before ops).getD j 0).testBit i = true → idx l i < idx l j := by
  intro n
  induction n with
  | zero => intro i j hj; omega
  | succ n ih =>
    intro i j hn hj hb
    obtain ⟨e, he, hbd, hc⟩ := before_spec hj hb
    obtain ⟨o, ho, hall⟩ := h.edge j (h.all j hj)
    have : o = ops[j] := by
      have h1 : ops[j]? = some ops[j] := by simp [hj]
      rw [ho] at h1; injection h1
    subst this
    obtain ⟨h1, h2⟩ := hall e he (binds_any hbd)
    rcases hc with rfl | ⟨hc1, hc2⟩
    · exact h2
    · have := ih i e.on (by omega) (h.lt _ h1) hc2
      omega
end
end Go.Proofs.YtcimkkcajkmfoaaDoor
