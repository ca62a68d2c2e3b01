import Derived.Test.YtnkapponcbgbhaaSemS
import Derived.OpenShut
import Derived.WideShapes
import Derived.ChangeOld
import Derived.Carry
set_option linter.all false
namespace Go.Proofs.Ytnkapponcbgbhaa
open Go Go.WideShapes Go.RowKit
def TyFs (f : TypeId → List PV → Prop) : List Field → List PV → Prop
  | [], cells => cells = []
  | fd :: r, cells => ∃ a b, cells = a ++ b ∧ f fd.type a ∧ TyFs f r b
def Ty (P : Program) : Nat → TypeId → List PV → Prop
  | 0, _, _ => False
  | d + 1, t, cells => match P.underlying t with
    | some .bool => ∃ b, cells = [.b b]
    | some (.int k) => ∃ n, cells = [.i k n] ∧ (Lit.int k n).wf = true
    | some .string => ∃ s, cells = [.s s]
    | some (.slice e) => ∃ xs, cells = [.l false xs] ∧ ∀ x ∈ xs, Ty P d e x
    | some (.struct fs) => TyFs (Ty P d) fs.toList cells
    | some (.array n e) => ∃ (k : IntKind) (ns : List Int), P.underlying e = some (.int k) ∧ ns.length = n ∧ cells = [.blob n (ns.map (.i k))] ∧ ∀ m ∈ ns, (Lit.int k m).wf = true
    | _ => False
def offs (P : Program) : Nat → List Field → Option Nat
  | k, [] => some k
  | k, f :: r => if f.offset = k then offs P (k + P.cellsOf f.type) r else none
def okTy (P : Program) : Nat → TypeId → Bool
  | 0, _ => false
  | d + 1, t => match P.underlying t with
    | some .bool | some (.int _) | some .string => true
    | some (.slice e) => decide (0 < P.cellsOf e) && okTy P d e
    | some (.struct fs) => offs P 0 fs.toList == some (P.cellsOf t) && fs.toList.all fun f => okTy P d f.type
    | some (.array n e) => isInt P e && P.cellsOf e == 1 && P.cellsOf t == n
    | _ => false
section
variable {H : Type} {enc : TypeId × Value → H} {P : Program} {w : World} {spare : Nat → Bool} {held : Bool}
def Rd (P : Program) (w : World) (d : Nat) (t : TypeId) (cs : List Value) (cells : List PV) : Prop :=
  Ty P d t cells ∧ wds cells = cs.length ∧ cells.map (rt false) = cells ∧ ∀ (arr : Array Value) (off : Nat), (∀ (j : Nat) v, cs[j]? = some v → arr[off + j]? = some v) → PCells w.heap (fun b => b < w.heap.size) arr off cells
theorem heap_of_cell {a : Addr} {v : Value} (h : w.cell? a = some v) : a.spot = none ∧ ∃ cs, rowAt w.heap a.block cs ∧ cs[a.off]? = some v := by
  unfold World.cell? at h
  split at h
  · rename_i c t fr hc
    split at h
    · cases h
    · rename_i hs
      refine ⟨by cases hsp : a.spot with | none => rfl | some x => simp [hsp] at hs, c, ⟨t, fr, hc⟩, h⟩
  · cases h
theorem lt_of_row {b : Nat} {cs : Array Value} (h : rowAt w.heap b cs) : b < w.heap.size := by
  obtain ⟨t, fr, h⟩ := h
  exact (Array.getElem?_eq_some_iff.1 h).1
theorem cells_at {a : Addr} {n : Nat} {cs : List Value} (h : w.cells? 0 a n = some cs) : cs.length = n ∧ ∀ (j : Nat) v, cs[j]? = some v → w.cell? (a.add j) = some v := by
  unfold World.cells? at h
  rw [if_pos (Nat.zero_le _)] at h
  have hl : cs.length = n := by simpa using mapM_some_length h
  refine ⟨hl, fun j v hj => ?_⟩
  have hlt : j < n := by rw [← hl]; exact (List.getElem?_eq_some_iff.1 hj).1
  have := mapM_some_get h j j (by simp [hlt])
  rw [this]; exact hj
theorem rd_ints {d : Nat} {e : TypeId} {k : IntKind} (he : P.underlying e = some (.int k)) (hc : P.cellsOf e = 1) {cs : List Value} {m n : Nat} {xs : List (DataW H × List MemPlace)} (hx : xs.length = n) (hl : cs.length = n) (h : ∀ i, i < n → DataW.trod enc P w 0 spare held m e ((cs.drop (i * P.cellsOf e)).take (P.cellsOf e)) = xs[i]?) :
    ∃ ns : List Int, ns.length = n ∧ (∀ z ∈ ns, (Lit.int k z).wf = true) ∧ (∀ (i : Nat) z, ns[i]? = some z → cs[i]? = some (.int k z)) ∧ ∀ (i : Nat) z, ns[i]? = some z → ∃ p, xs[i]? = some (.lit (.int k z), p) := by
  have key : ∀ i, i < n → ∃ z, cs[i]? = some (.int k z) ∧ (Lit.int k z).wf = true ∧ xs[i]? = some (.lit (.int k z), []) := by
    intro i hi
    have := h i hi
    rw [hc, Nat.mul_one, List.getElem?_eq_getElem (by omega)] at this
    obtain ⟨z, e1, e2, e3⟩ := DataW.trod_int he this
    refine ⟨z, ?_, e3, by rw [List.getElem?_eq_getElem (by omega), e2]⟩
    have h0 : ((cs.drop i).take 1)[0]? = some (.int k z) := by rw [e1]; rfl
    simpa using h0
  have mk : ∀ j, j ≤ n → ∃ ns : List Int, ns.length = j ∧ ∀ (i : Nat) z, ns[i]? = some z → cs[i]? = some (.int k z) ∧ (Lit.int k z).wf = true ∧ xs[i]? = some (.lit (.int k z), []) := by
    intro j
    induction j with
    | zero => intro _; exact ⟨[], rfl, fun i z h => by simp at h⟩
    | succ j ih =>
      intro hj
      obtain ⟨ns, h1, h2⟩ := ih (by omega)
      obtain ⟨z, g⟩ := key j (by omega)
      refine ⟨ns ++ [z], by simp [h1], fun i y hy => ?_⟩
      by_cases hi : i < ns.length
      · rw [List.getElem?_append_left hi] at hy; exact h2 i y hy
      · rw [List.getElem?_append_right (by omega)] at hy
        have : i - ns.length = 0 := by
          rcases Nat.eq_zero_or_pos (i - ns.length) with h | h
          · exact h
          · rw [List.getElem?_eq_none (by simp; omega)] at hy; cases hy
        rw [this] at hy
        simp at hy; subst hy
        have : i = j := by omega
        subst this; exact g
  obtain ⟨ns, h1, h2⟩ := mk n (Nat.le_refl _)
  refine ⟨ns, h1, fun z hz => ?_, fun i z hz => (h2 i z hz).1, fun i z hz => ⟨[], (h2 i z hz).2.2⟩⟩
  obtain ⟨i, hi⟩ := List.getElem?_of_mem hz
  exact (h2 i z hi).2.1
theorem rd_fields {d : Nat} {n : Nat} (ih : ∀ (t : TypeId) (cs : List Value) x, okTy P d t = true → DataW.trod enc P w 0 spare held n t cs = some x → ∃ cells, Rd P w d t cs cells) (cs : List Value) (tot : Nat) (hcs : cs.length = tot) :
    ∀ (fs : List Field) (k : Nat), offs P k fs = some tot → (∀ f ∈ fs, okTy P d f.type = true) → (∀ f ∈ fs, ∃ x, DataW.trod enc P w 0 spare held n f.type ((cs.drop f.offset).take (P.cellsOf f.type)) = some x) → k ≤ tot →
      ∃ cells, TyFs (Ty P d) fs cells ∧ k + wds cells = tot ∧ cells.map (rt false) = cells ∧ ∀ (arr : Array Value) (off : Nat), (∀ (j : Nat) v, cs[j]? = some v → arr[off + j]? = some v) → PCells w.heap (fun b => b < w.heap.size) arr (off + k) cells
  | [], k, ho, _, _, hk => by
    simp only [offs, Option.some.injEq] at ho
    exact ⟨[], rfl, by simp [wds, ho], rfl, fun _ _ _ => by simp only [PCells]⟩
  | f :: r, k, ho, hok, ht, hk => by
    simp only [offs] at ho
    split at ho
    · rename_i hf
      obtain ⟨x, hx⟩ := ht f (by simp)
      obtain ⟨a, a1, a2, a3, a4⟩ := ih f.type _ x (hok f (by simp)) hx
      have hmono : ∀ (fs : List Field) (k t : Nat), offs P k fs = some t → k ≤ t := by
        intro fs
        induction fs with
        | nil => intro k t h; simp only [offs, Option.some.injEq] at h; omega
        | cons g s ihs =>
          intro k t h
          simp only [offs] at h
          split at h
          · have := ihs _ _ h; omega
          · cases h
      have hle := hmono r _ _ ho
      obtain ⟨b, b1, b2, b3, b4⟩ := rd_fields ih cs tot hcs r (k + P.cellsOf f.type) ho (fun g hg => hok g (List.mem_cons_of_mem _ hg)) (fun g hg => ht g (List.mem_cons_of_mem _ hg)) hle
      have hwa : wds a = P.cellsOf f.type := by rw [a2]; simp; omega
      refine ⟨a ++ b, ⟨a, b, rfl, a1, b1⟩, by rw [wds_app, hwa]; omega, by rw [List.map_append, a3, b3], fun arr off h => ?_⟩
      rw [PCells_app]
      refine ⟨a4 arr (off + k) (fun j v hj => ?_), by rw [hwa, Nat.add_assoc]; exact b4 arr off h⟩
      have hjl : j < P.cellsOf f.type := by
        have := (List.getElem?_eq_some_iff.1 hj).1
        simp at this; omega
      rw [List.getElem?_take_of_lt hjl, List.getElem?_drop] at hj
      rw [Nat.add_assoc, ← hf]
      exact h _ v hj
    · cases ho
theorem trod_Ty : ∀ (d : Nat) (fuel : Nat) (t : TypeId) (cs : List Value) (x : DataW H × List MemPlace), okTy P d t = true → DataW.trod enc P w 0 spare held fuel t cs = some x → ∃ cells, Rd P w d t cs cells
  | 0, _, _, _, _, h, _ => by simp [okTy] at h
  | d + 1, fuel, t, cs, x, h, ht => by
    simp only [okTy] at h
    split at h
    · rename_i hu
      obtain ⟨b, rfl, _⟩ := DataW.trod_bool hu ht
      refine ⟨[.b b], by simp only [Ty, hu]; exact ⟨b, rfl⟩, rfl, rfl, fun arr off hj => ?_⟩
      simp only [PCells, PAt, and_true]; exact hj 0 _ rfl
    · rename_i k hu
      obtain ⟨n, rfl, _, hw⟩ := DataW.trod_int hu ht
      refine ⟨[.i k n], by simp only [Ty, hu]; exact ⟨n, rfl, hw⟩, rfl, rfl, fun arr off hj => ?_⟩
      simp only [PCells, PAt, and_true]; exact hj 0 _ rfl
    · rename_i hu
      obtain ⟨s, rfl, _, _⟩ := DataW.trod_string hu ht
      refine ⟨[.s s.data.toList], by simp only [Ty, hu]; exact ⟨_, rfl⟩, rfl, rfl, fun arr off hj => ?_⟩
      simp only [PCells, PAt, and_true]; exact ⟨s, hj 0 _ rfl, rfl⟩
    · rename_i e hu
      simp only [Bool.and_eq_true, decide_eq_true_eq] at h
      rcases DataW.trod_slice hu ht with ⟨rfl, _⟩ | ⟨a, len, cap, elems, rest, n, _, rfl, _, _, hlc, _, hel, hget, _⟩
      · refine ⟨[.l false []], by simp only [Ty, hu]; exact ⟨[], rfl, fun x hx => by cases hx⟩, rfl, rfl, fun arr off hj => ?_⟩
        simp only [PCells, PAt, and_true]
        exact ⟨none, 0, hj 0 _ rfl, Nat.le_refl _, .inl trivial⟩
      · have key : ∀ i, i < len → ∃ c cells, w.cells? 0 (a.add (i * P.cellsOf e)) (P.cellsOf e) = some c ∧ Rd P w d e c cells := by
          intro i hi
          have := hget i hi
          rw [List.getElem?_eq_getElem (by omega)] at this
          obtain ⟨c, hc1, hc2⟩ := Option.bind_eq_some_iff.1 this
          obtain ⟨cells, hcells⟩ := trod_Ty d n e c _ h.2 hc2
          exact ⟨c, cells, hc1, hcells⟩
        have mk : ∀ j, j ≤ len → ∃ xs : List (List PV), xs.length = j ∧ ∀ (i : Nat) cells, xs[i]? = some cells → ∃ c, w.cells? 0 (a.add (i * P.cellsOf e)) (P.cellsOf e) = some c ∧ Rd P w d e c cells := by
          intro j
          induction j with
          | zero => intro _; exact ⟨[], rfl, fun i z h => by simp at h⟩
          | succ j ih =>
            intro hj
            obtain ⟨xs, h1, h2⟩ := ih (by omega)
            obtain ⟨c, cells, g⟩ := key j (by omega)
            refine ⟨xs ++ [cells], by simp [h1], fun i y hy => ?_⟩
            by_cases hi : i < xs.length
            · rw [List.getElem?_append_left hi] at hy; exact h2 i y hy
            · rw [List.getElem?_append_right (by omega)] at hy
              have : i - xs.length = 0 := by
                rcases Nat.eq_zero_or_pos (i - xs.length) with h | h
                · exact h
                · rw [List.getElem?_eq_none (by simp; omega)] at hy; cases hy
              rw [this] at hy
              simp at hy; subst hy
              have : i = j := by omega
              subst this; exact ⟨c, g⟩
        obtain ⟨xs, hxl, hxs⟩ := mk len (Nat.le_refl _)
        refine ⟨[.l false xs], by
          simp only [Ty, hu]
          refine ⟨xs, rfl, fun x hx => ?_⟩
          obtain ⟨i, hi⟩ := List.getElem?_of_mem hx
          obtain ⟨c, _, hr⟩ := hxs i x hi
          exact hr.1, rfl, rfl, fun arr off hj => ?_⟩
        simp only [PCells, PAt, and_true]
        refine ⟨some a, cap, by rw [hxl]; exact hj 0 _ rfl, by rw [hxl]; exact hlc, ?_⟩
        rcases Nat.eq_zero_or_pos len with h0 | hpos
        · exact .inl (List.length_eq_zero_iff.1 (by omega))
        · right
          have h0 : xs[0]? = some (xs[0]'(by omega)) := List.getElem?_eq_getElem (by omega)
          obtain ⟨c0, hc0, hr0⟩ := hxs 0 _ h0
          obtain ⟨hl0, hv0⟩ := cells_at hc0
          have hc00 : c0[0]? = some (c0[0]'(by omega)) := List.getElem?_eq_getElem (by omega)
          have hcell := hv0 0 _ hc00
          rw [Nat.zero_mul] at hcell
          have haa : (a.add 0).add 0 = a := by simp [Addr.add]
          rw [haa] at hcell
          obtain ⟨hsp, row, hrow, _⟩ := heap_of_cell hcell
          refine ⟨a.block, a.off, P.cellsOf e, row, by cases a; simp only at hsp; subst hsp; rfl, lt_of_row hrow, hrow, PEls_of fun i x hx => ?_⟩
          obtain ⟨c, hc, hr⟩ := hxs i x hx
          obtain ⟨hl, hv⟩ := cells_at hc
          refine ⟨by rw [hr.2.1, hl], hr.2.2.2 row _ fun j v hjv => ?_⟩
          have hc2 := hv j v hjv
          have ha2 : (a.add (i * P.cellsOf e)).add j = ⟨a.block, a.off + i * P.cellsOf e + j, none⟩ := by
            cases a; simp only at hsp; subst hsp
            rw [add_none, add_none]
          rw [ha2, cell_rowAt hrow] at hc2
          exact hc2
    · rename_i fs hu
      simp only [Bool.and_eq_true, beq_iff_eq] at h
      obtain ⟨xs, n, _, _, hl, hxl, hget⟩ := DataW.trod_struct hu ht
      obtain ⟨cells, g1, g2, g3, g4⟩ := rd_fields (fun t cs x h1 h2 => trod_Ty d n t cs x h1 h2) cs (P.cellsOf t) hl fs.toList 0 h.1 (List.all_eq_true.1 h.2) (fun f hf => by
        obtain ⟨i, hi⟩ := List.getElem?_of_mem hf
        rw [Array.getElem?_toList] at hi
        have hlt := (Array.getElem?_eq_some_iff.1 hi).1
        rw [hget i f hi, List.getElem?_eq_getElem (by omega)]
        exact ⟨_, rfl⟩) (Nat.zero_le _)
      refine ⟨cells, by simp only [Ty, hu]; exact g1, by omega, g3, fun arr off hj => ?_⟩
      have := g4 arr off hj
      rwa [Nat.add_zero] at this
    · rename_i n e hu
      simp only [Bool.and_eq_true, beq_iff_eq] at h
      obtain ⟨⟨hi, hc⟩, hn⟩ := h
      obtain ⟨k, hk⟩ : ∃ k, P.underlying e = some (.int k) := by
        unfold isInt at hi
        split at hi
        · exact ⟨_, by assumption⟩
        · cases hi
      obtain ⟨xs, m, _, _, hl, hxl, hget⟩ := DataW.trod_array hu ht
      obtain ⟨ns, h1, h2, h3, _⟩ := rd_ints (d := d) hk hc hxl (by omega) hget
      refine ⟨[.blob n (ns.map (.i k))], by simp only [Ty, hu]; exact ⟨k, ns, hk, h1, rfl, h2⟩, by simp [wds, wd]; omega, rfl, fun arr off hj => ?_⟩
      simp only [PCells, PAt, and_true]
      refine ⟨by simp [h1], fun i x hx => ?_⟩
      rw [List.getElem?_map] at hx
      obtain ⟨z, hz, rfl⟩ := Option.map_eq_some_iff.1 hx
      exact ⟨_, hj i _ (h3 i z hz), rfl⟩
    · cases h
end
def TyV (P : Program) (d : Nat) (t : TypeId) (v : PV) : Prop := ∃ cells, Ty P d t cells ∧ ((aggT P t = true ∧ v = .agg cells) ∨ (aggT P t = false ∧ cells = [v]))
def TyAll (P : Program) (d : Nat) : List TypeId → List PV → Prop
  | [], as => as = []
  | t :: ts, as => ∃ v r, as = v :: r ∧ TyV P d t v ∧ TyAll P d ts r
def Ctx.start (fid : Nat → Nat) (glob : Nat → Option (List PV)) (w : World) : Ctx :=
  { fid := fid, glob := glob, w0 := w, A := fun _ => False, gn := fun _ => True, g0 := { mu := fun _ => none, im := fun b => b < w.heap.size, gn := fun _ => True }, kp := fun k => k < 64, N := fun b => w.heap.size ≤ b }
section
variable {H : Type} {enc : TypeId × Value → H} {P : Program} {w : World} {spare : Nat → Bool} {held : Bool} {fid : Nat → Nat} {glob : Nat → Option (List PV)}
theorem val_Ty {d : Nat} {t : TypeId} {v : Value} {x : DataW H} {ps : List MemPlace} {r : Reach} {base : Nat} (hok : okTy P d t = true) (hval : Value.okWide P w r base t v) (h : DataW.Trod enc P w 0 spare held t v x ps) :
    ∃ pv, TyV P d t pv ∧ RV fid (Ctx.start fid glob w).g0 w.heap v pv := by
  obtain ⟨fuel, h⟩ := h
  obtain ⟨cells, h1, h2, h3, h4⟩ := trod_Ty d fuel t _ _ hok h
  have hq : (fun b => b < w.heap.size) = (Ctx.start fid glob w).g0.q false := by
    funext b
    simp [Gh.q, Ctx.start]
  rw [hq] at h4
  have hR : ∀ (arr : Array Value) (off : Nat), (∀ (j : Nat) u, v.cells.toList[j]? = some u → arr[off + j]? = some u) → RCells fid (Ctx.start fid glob w).g0 w.heap arr off cells := fun arr off hj => by
    have := PCells_rt (fid := fid) (g := false) (h4 arr off hj)
    rwa [h3] at this
  cases ha : aggT P t with
  | true =>
    have hagg : ∃ cs, v = .agg cs := by
      unfold aggT at ha
      split at ha
      · rename_i fs hu
        obtain ⟨cs, e, _⟩ := okWide_struct hu hval; exact ⟨cs, e⟩
      · rename_i n e hu
        simp only [Value.okWide, hu] at hval
        obtain ⟨cs, e, _⟩ := hval; exact ⟨cs, e⟩
      · cases ha
    obtain ⟨cs, rfl⟩ := hagg
    refine ⟨.agg cells, ⟨cells, h1, .inl ⟨ha, rfl⟩⟩, RV_agg.2 ⟨cs, rfl, ?_, hR cs 0 (fun j u hj => by rw [Nat.zero_add]; simpa [Value.cells] using hj)⟩⟩
    rw [h2]; simp [Value.cells]
  | false =>
    have hone : ∃ pv, cells = [pv] := by
      cases d with
      | zero => simp [okTy] at hok
      | succ d =>
        simp only [Ty] at h1
        split at h1
        · obtain ⟨b, e⟩ := h1; exact ⟨_, e⟩
        · obtain ⟨n, e, _⟩ := h1; exact ⟨_, e⟩
        · obtain ⟨s, e⟩ := h1; exact ⟨_, e⟩
        · obtain ⟨xs, e, _⟩ := h1; exact ⟨_, e⟩
        · rename_i hu; simp [aggT, hu] at ha
        · rename_i hu; simp [aggT, hu] at ha
        · cases h1
    obtain ⟨pv, rfl⟩ := hone
    refine ⟨pv, ⟨[pv], h1, .inr ⟨ha, rfl⟩⟩, ?_⟩
    have hcell : v.cells = #[v] := by
      cases d with
      | zero => simp [okTy] at hok
      | succ d =>
        simp only [okTy] at hok
        split at hok
        · rename_i hu; obtain ⟨b, rfl⟩ := okWide_bool hu hval; rfl
        · rename_i k hu; obtain ⟨b, rfl⟩ := okWide_int hu hval; rfl
        · rename_i hu; obtain ⟨b, rfl⟩ := okWide_string hu hval; rfl
        · rename_i e hu; obtain ⟨a, l, c, rfl⟩ := okWide_slice hu hval; rfl
        · rename_i hu; simp [aggT, hu] at ha
        · rename_i hu; simp [aggT, hu] at ha
        · cases hok
    have := hR #[v] 0 (fun j u hj => by rw [hcell] at hj; rw [Nat.zero_add]; simpa using hj)
    simp only [RCells] at this
    exact this.1.2
theorem all_Ty {d : Nat} {r : Reach} {base : Nat} : ∀ (ts : List TypeId) (vs : List Value) (ds : List (DataW H)) (ps : List MemPlace), ts.all (okTy P d) = true → (∀ (j : Nat) t v, ts[j]? = some t → vs[j]? = some v → Value.okWide P w r base t v) → DataW.TrodAll enc P w 0 spare held ts vs ds ps →
    ∃ as, TyAll P d ts as ∧ vs.length = as.length ∧ RL fid (Ctx.start fid glob w).g0 w.heap vs.toArray 0 as
  | [], vs, ds, ps, _, _, h => by
    obtain ⟨rfl, _, _⟩ := ChangeShapes.trodAll_nil h
    exact ⟨[], rfl, rfl, by simp only [RL]⟩
  | t :: ts, vs, ds, ps, hok, hval, h => by
    obtain ⟨v, vs', d0, ds', p, q, rfl, rfl, _, h1, h2⟩ := ChangeShapes.trodAll_cons h
    simp only [List.all_cons, Bool.and_eq_true] at hok
    obtain ⟨pv, g1, g2⟩ := val_Ty (fid := fid) (glob := glob) hok.1 (hval 0 t v rfl rfl) h1
    obtain ⟨as, g3, g4, g5⟩ := all_Ty ts vs' ds' q hok.2 (fun j t v ht hv => hval (j + 1) t v (by simpa using ht) (by simpa using hv)) h2
    refine ⟨pv :: as, ⟨pv, as, rfl, g1, g3⟩, by simp [g4], ?_⟩
    simp only [RL]
    refine ⟨⟨v, by simp, g2⟩, RL_at (fun i x hi hx => ?_) g5⟩
    rw [Nat.zero_add] at hx
    simpa [Nat.add_comm] using hx
theorem St.start {args : Array Value} {as : List PV} (hs : args.size = as.length) (hR : RL fid (Ctx.start fid glob w).g0 w.heap args 0 as) (hglob : ∀ g xs, glob g = some xs → ∃ cs, rowAt w.heap g cs ∧ PCells w.heap (fun b => b < w.heap.size) cs 0 xs) :
    St (Ctx.start fid glob w) (Ctx.start fid glob w).g0 (Ctx.start fid glob w).w0 args (zipN 0 as) (zipN 0 []) := by
  have hq : (fun b => b < w.heap.size) = (Ctx.start fid glob w).g0.q true := by
    funext b
    simp [Gh.q, Ctx.start]
  constructor
  · exact fun t => getD_RL hR hs t
  · intro o x h; simp [zipN, getO] at h
  · intro o i h; cases h
  · intro o o' i i' b h; cases h
  · intro o x i b h; simp [zipN, getO] at h
  · intro o i b h; cases h
  · intro b h; exact h
  · intro g xs hg
    obtain ⟨cs, h1, h2⟩ := hglob g xs hg
    exact ⟨⟨lt_of_row h1, fun _ => trivial⟩, cs, h1, by rw [hq] at h2; exact h2⟩
  · exact Chg.refl _ _
  · rfl
  · intro b _; trivial
  · intro k i _ h; cases h
  · intro b h; exact ⟨h, rfl⟩
  · intro b h; exact .inl h
  · intro o i b h; cases h
  · intro b h; exact h
theorem law_calls {T : Nat → Option Body} (hT : Tabled P fid glob T) (N d : Nat) {f : FuncId} {args : Array Value} {as : List PV} (hs : args.size = as.length) (hR : RL fid (Ctx.start fid glob w).g0 w.heap args 0 as) (hglob : ∀ g xs, glob g = some xs → ∃ cs, rowAt w.heap g cs ∧ PCells w.heap (fun b => b < w.heap.size) cs 0 xs)
    {out : List Obj'} (H : sem T N d (fid f) as [] = some (.b true, out)) : Calls P f args w fun e w' => e = .returned (.bool true) ∧ Below w.heap.size w w' := by
  have := (sem_sound hT N d).1 f as [] (.b true) out H (Nat.zero_le _) (Ctx.start fid glob w) args rfl rfl hs (by simp) (fun k => Iff.rfl) (St.start hs hR hglob)
  refine this.mono ?_
  rintro e w' ⟨v, γ', rfl, hret, _⟩
  have hv := hret.rv
  rw [RV_b] at hv
  subst hv
  exact ⟨rfl, hret.chg.os, hret.chg.tape, hret.chg.output, hret.chg.size, fun k hk => hret.chg.block k hk (fun h => by
    rcases h with h | h
    · exact h
    · exact absurd hk (Nat.not_lt.2 h))⟩
theorem trodAll_back (hl : laidOutB P = true) {W W' : World} (hb : Below W.heap.size W W') : ∀ (ts : List TypeId) (vs : List Value) (ds : List (DataW H)) (ps : List MemPlace), (ts.all fun t => P.readableRec t && decide (t < P.types.size)) = true → DataW.TrodAll enc P W 0 (fun _ => true) true ts vs ds ps → DataW.TrodAll enc P W' 0 (fun b => decide (b < W.heap.size)) true ts vs ds ps
  | [], vs, ds, ps, _, h => by
    obtain ⟨rfl, rfl, rfl⟩ := ChangeShapes.trodAll_nil h
    exact ChangeShapes.trodAll_mk0
  | t :: ts, vs, ds, ps, hok, h => by
    obtain ⟨v, vs', d0, ds', p, q, rfl, rfl, rfl, h1, h2⟩ := ChangeShapes.trodAll_cons h
    simp only [List.all_cons, Bool.and_eq_true, decide_eq_true_eq] at hok
    refine trodAll_cons_mk (Below.trod hl hok.1.1 hok.1.2 h1 hb ?_) (trodAll_back hl hb ts vs' ds' q hok.2 h2)
    obtain ⟨m, hm⟩ := h1
    exact DataW.trod_lt m _ _ _ hm
end
end Go.Proofs.Ytnkapponcbgbhaa
