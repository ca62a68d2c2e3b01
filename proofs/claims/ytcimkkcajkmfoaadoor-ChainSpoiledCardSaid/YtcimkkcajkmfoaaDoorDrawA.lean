/-
  Two operations that stand in either order.
-/
import Derived.Test.YtcimkkcajkmfoaaDoorLocC
set_option linter.all false
namespace Go.Proofs.YtcimkkcajkmfoaaDoor
open Go

/-- The same slots and objects. -/
def EqX (x y : SL × OB) : Prop := (∀ t, getS x.1 t = getS y.1 t) ∧ ∀ o, getO x.2 o = getO y.2 o
theorem EqX.refl (x : SL × OB) : EqX x x := ⟨fun _ => rfl, fun _ => rfl⟩
theorem EqX.symm {x y : SL × OB} (h : EqX x y) : EqX y x := ⟨fun t => (h.1 t).symm, fun o => (h.2 o).symm⟩
theorem EqX.trans {x y z : SL × OB} (h : EqX x y) (g : EqX y z) : EqX x z := ⟨fun t => (h.1 t).trans (g.1 t), fun o => (h.2 o).trans (g.2 o)⟩
section
variable {C : Ctx} {γ : Gh} {w : World} {tmps : Array Value}
theorem St.eqX {x y : SL × OB} (S : St C γ w tmps x.1 x.2) (h : EqX x y) : St C γ w tmps y.1 y.2 :=
  { S with
    slot := fun t => by rw [← h.1 t]; exact S.slot t
    obj := fun o X hX => S.obj o X (by rw [h.2 o]; exact hX)
    dom := fun o i hi => by
      obtain ⟨X, hX⟩ := S.dom o i hi
      exact ⟨X, by rw [← h.2 o]; exact hX⟩
    unf := fun o X i b hX => S.unf o X i b (by rw [h.2 o]; exact hX) }
end
/-! ### Whatever a value leads to is there -/
section
variable {fid : Nat → Nat} {γ : Gh} {h : Array Obj} {k : Nat}
mutual
theorem RAt_refs : ∀ (v : PV) (cs : Array Value) (off : Nat), RAt fid γ h cs off v → k ∈ refs v → ∃ i, γ.mu k = some i
  | .b _, _, _, _, H | .i _ _, _, _, _, H | .s _, _, _, _, H | .blob _ _, _, _, _, H | .np, _, _, _, H | .nf, _, _, _, H | .ub, _, _, _, H | .un, _, _, _, H | .e _, _, _, _, H | .l _ _, _, _, _, H | .ln _ _, _, _, _, H | .q _ _ _, _, _, _, H => by simp [refs] at H
  | .sl o ver lo n, cs, off, m, H => by
    simp only [RAt] at m; simp [refs] at H; subst H
    obtain ⟨i, hi, _⟩ := m; exact ⟨i, hi⟩
  | .bs o o' lo n, cs, off, m, H => by
    simp only [RAt] at m; simp [refs] at H; subst H
    obtain ⟨i, hi, _⟩ := m; exact ⟨i, hi⟩
  | .p o ver j o' bi, cs, off, m, H => by
    simp only [RAt] at m; simp [refs] at H; subst H
    obtain ⟨i, hi, _⟩ := m; exact ⟨i, hi⟩
  | .agg xs, cs, off, m, H => by
    simp only [RAt] at m; simp only [refs] at H
    obtain ⟨arr, _, _, m⟩ := m
    exact RCells_refs xs arr 0 m H
  | .tup vs, cs, off, m, H => by
    simp only [RAt] at m; simp only [refs] at H
    obtain ⟨arr, _, _, m⟩ := m
    exact RL_refs vs arr 0 m H
  | .fn g fs cap, cs, off, m, H => by
    simp only [RAt] at m; simp only [refs, List.mem_append] at H
    obtain ⟨f0, a1, a2, _, _, ⟨_, m1⟩, _, m2⟩ := m
    rcases H with H | H
    · exact RL_refs fs a1 0 m1 H
    · exact RL_refs cap a2 0 m2 H
  | .y o n k, cs, off, m, H => by
    simp only [RAt] at m; simp [refs] at H; subst H
    obtain ⟨i, hi, _⟩ := m; exact ⟨i, hi⟩
theorem RCells_refs : ∀ (l : List PV) (cs : Array Value) (off : Nat), RCells fid γ h cs off l → k ∈ refsL l → ∃ i, γ.mu k = some i
  | [], _, _, _, H => by simp [refsL] at H
  | v :: r, cs, off, m, H => by
    simp only [RCells] at m; simp only [refsL, List.mem_append] at H
    rcases H with H | H
    · exact RAt_refs v cs off m.1.2 H
    · exact RCells_refs r cs _ m.2 H
theorem RL_refs : ∀ (l : List PV) (cs : Array Value) (off : Nat), RL fid γ h cs off l → k ∈ refsL l → ∃ i, γ.mu k = some i
  | [], _, _, _, H => by simp [refsL] at H
  | v :: r, cs, off, m, H => by
    simp only [RL] at m; simp only [refsL, List.mem_append] at H
    obtain ⟨⟨x, _, m1⟩, m2⟩ := m
    rcases H with H | H
    · exact RAt_refs v _ _ m1 H
    · exact RL_refs r cs _ m2 H
end
theorem REls_refs : ∀ (l : List (List PV)) (cs : Array Value) (w off : Nat), REls fid γ h cs w off l → k ∈ refsEls l → ∃ i, γ.mu k = some i
  | [], _, _, _, _, H => by simp [refsEls] at H
  | x :: r, cs, w, off, m, H => by
    simp only [REls] at m; simp only [refsEls, List.mem_append] at H
    rcases H with H | H
    · exact RCells_refs x cs off m.2.1 H
    · exact REls_refs r cs w _ m.2.2 H
theorem ORel_refs {x : Obj'} {i : HI} (H : ORel fid γ h x i) (hk : k ∈ refsO x) : ∃ j, γ.mu k = some j := by
  obtain ⟨_, _, h3, h4⟩ := H
  unfold refsO at hk
  split at hk
  · simp at hk
  · rename_i hp
    cases hb : i.blk with
    | none =>
      simp only [hb] at h4
      have : x.els = [] := List.length_eq_zero_iff.1 (by omega)
      rw [this] at hk; simp [refsEls] at hk
    | some b =>
      simp only [hb] at h4
      obtain ⟨_, cs, _, _, h⟩ := h4
      rcases h with ⟨h, _⟩ | ⟨_, h⟩
      · exact absurd h hp
      · exact REls_refs _ _ _ _ h hk
end

section
variable {P : Program} {E : Env} {C : Ctx}
/-- Some state of the model's is read as this. -/
def Hyp (C : Ctx) (N : Nat) (x : SL × OB) : Prop := ∃ (a : Act) (γ : Gh) (w : World), a.tmps.size = N ∧ St C γ w a.tmps x.1 x.2
/-- Objects that are there. -/
def dom (ob : OB) (k : Nat) : Prop := getO ob k ≠ none
theorem Hyp.dom {N : Nat} {x : SL × OB} (h : Hyp C N x) : Clo (dom x.2) x.2 ∧ ∀ (E : Env) (y : Operand), ∀ k ∈ refs (ev E x.1 y), dom x.2 k := by
  obtain ⟨a, γ, w, _, S⟩ := h
  have hd : ∀ k i, γ.mu k = some i → Go.Proofs.YtcimkkcajkmfoaaDoor.dom x.2 k := fun k i hi => by
    obtain ⟨X, hX⟩ := S.dom k i hi
    unfold Go.Proofs.YtcimkkcajkmfoaaDoor.dom; rw [hX]; simp
  refine ⟨fun k hk j hj => ?_, fun E y k hk => ?_⟩
  · cases hX : getO x.2 k with
    | none => exact absurd hX hk
    | some X =>
      rw [hX] at hj
      obtain ⟨i, _, ho⟩ := S.obj k X hX
      obtain ⟨j', hj'⟩ := ORel_refs ho hj
      exact hd _ _ hj'
  · cases y with
    | tmp t =>
      obtain ⟨i, hi⟩ := RAt_refs _ _ _ (S.slot t) hk
      exact hd _ _ hi
    | const v => exfalso; simp only [ev] at hk; unfold constP at hk; split at hk <;> simp [refs] at hk
    | global g =>
      simp only [ev] at hk
      split at hk <;> simp [refs] at hk
    | func f => simp [ev, refs, refsL] at hk
theorem Hyp.step {N : Nat} {x y : SL × OB} (h : Hyp C N x) (hE : E.fid = C.fid) (hG : E.glob = C.glob) (hro : ∀ f, E.ro f = false) (hrov : E.rov = false) {Φ : Sem'} (hΦ : Sound P C.fid C.glob Φ) {ops : Array Oper} {o : Oper} (hd : ∀ t, o.dst = some t → t < N)
    (H : stepA P E Φ ops o x = some y) : Hyp C N y := by
  obtain ⟨a, γ, w, hs, S⟩ := h
  rcases step_ok hE hG hro hrov S hΦ (by rw [hs]; exact hd) H with ⟨_, h2⟩ | ⟨_, h2⟩
  · rcases h2 with ⟨v, w', _, γ', S'⟩ | ⟨w', _, γ', S'⟩ | ⟨f, args, w', _, h⟩
    · exact ⟨_, γ', w', by rw [put_size]; exact hs, S'⟩
    · exact ⟨_, γ', w', by rw [put_size]; exact hs, S'⟩
    · obtain ⟨e, w'', _, ⟨v, _, γ', S'⟩, _⟩ := h []
      exact ⟨_, γ', w'', by rw [put_size]; exact hs, S'⟩
  · exact ⟨_, γ, w, by rw [put_size]; exact hs, h2⟩

/-- A step's value and changes. -/
noncomputable def stepU (P : Program) (E : Env) (Φ : Sem') (ops : Array Oper) (o : Oper) (sl : SL) (ob : OB) : Option Up :=
  match wantA ops o sl with
  | none => none
  | some true => opA P E Φ sl ob (nid o.dst) o.op
  | some false => some (.tup [], [])
variable {Φ : Sem'} {ops : Array Oper}
theorem stepA_U {o : Oper} {x y : SL × OB} : stepA P E Φ ops o x = some y ↔ ∃ r, stepU P E Φ ops o x.1 x.2 = some r ∧ y = (putS o.dst r.1 x.1, r.2 ++ x.2) := by
  unfold stepA stepU
  cases wantA ops o x.1 with
  | none => simp
  | some b => cases b with
    | true =>
      simp only [Option.map_eq_some_iff]
      exact ⟨fun ⟨r, h, e⟩ => ⟨r, h, e.symm⟩, fun ⟨r, h, e⟩ => ⟨r, h, e.symm⟩⟩
    | false =>
      simp only [Option.some.injEq]
      exact ⟨fun h => ⟨_, rfl, h.symm⟩, fun ⟨r, h, e⟩ => by subst h; exact e.symm⟩
theorem want_sl {o : Oper} {sl sl' : SL} (h : ∀ t, gSlot ops o = some t → getS sl t = getS sl' t) : wantA ops o sl = wantA ops o sl' := by
  unfold wantA
  unfold gSlot at h
  split
  · rfl
  · rename_i j w hg
    rw [hg] at h
    cases ht : (ops[j]?).bind (·.dst) with
    | none => rfl
    | some t => simp only; rw [h t ht]
theorem stepU_LU (hro : ∀ f, E.ro f = false) (hrov : E.rov = false) {o : Oper} {c : Nat} {K : Nat → Prop} {sl sl' : SL} {ob ob' : OB} (hc : memC P E o.op = c) (hs : ∀ x ∈ o.op.operands, ev E sl x = ev E sl' x) (hg : ∀ t, gSlot ops o = some t → getS sl t = getS sl' t) (hK : c ≠ 0 → ∀ k ∈ refsL (accs E sl o.op), K k)
    (hK3 : c = 3 ∨ c = 4 → (∀ x ∈ o.op.operands, ∀ k ∈ refs (ev E sl x), K k) ∧ Clo K ob) (hF : AgF K ob ob') (hE' : c = 2 ∨ c = 4 → AgE K ob ob') :
    LU c K ob ob' (stepU P E Φ ops o sl ob) (stepU P E Φ ops o sl' ob') := by
  unfold stepU
  rw [← want_sl hg, ← opA_sl (ob := ob') hs]
  cases wantA ops o sl with
  | none => exact LU.none _
  | some b => cases b with
    | true => exact opA_LU hro hrov hc hK hK3 hF hE'
    | false => exact LU.eq rfl (fun r hr => by injection hr with hr; subst hr; exact Upd.nil)
theorem getS_put (d : Option Nat) (v : PV) (sl : SL) (t : Nat) : getS (putS d v sl) t = if d = some t then v else getS sl t := by
  cases d with
  | none => simp [putS]
  | some k => simp only [putS, getS, Option.some.injEq]
/-- A step from another list of the same. -/
theorem stepA_resp (hro : ∀ f, E.ro f = false) (hrov : E.rov = false) {o : Oper} {x x' y : SL × OB} (h : EqX x x') (H : stepA P E Φ ops o x = some y) : accs E x.1 o.op = accs E x'.1 o.op ∧ ∃ y', stepA P E Φ ops o x' = some y' ∧ EqX y y' := by
  have hev : ∀ z, ev E x.1 z = ev E x'.1 z := fun z => by cases z <;> simp only [ev]; exact h.1 _
  obtain ⟨r, hr, rfl⟩ := stepA_U.1 H
  have hl := stepU_LU (P := P) (Φ := Φ) (ops := ops) (K := fun _ => True) (ob := x.2) (ob' := x'.2) hro hrov (o := o) rfl (fun z _ => hev z) (fun t _ => h.1 t) (fun _ _ _ => trivial) (fun _ => ⟨fun _ _ _ _ => trivial, fun _ _ _ _ => trivial⟩) (fun k _ => sameF.of_eq (h.2 k)) (fun _ k _ => h.2 k)
  obtain ⟨g1, _⟩ := hl r hr
  refine ⟨accs_sl fun z _ => hev z, _, stepA_U.2 ⟨r, g1 (fun k _ hk => by rw [← h.2 k]; exact hk), rfl⟩, fun t => ?_, fun k => ?_⟩
  · rw [getS_put, getS_put, h.1 t]
  · rw [getO_app, getO_app, h.2 k]
theorem clash_lt {a b : Nat} {p o : Op} (ha : memC P E p = a) (hb : memC P E o = b) (h : clash P E p o < 2) : a = 0 ∨ b = 0 ∨ ((a = 1 ∨ a = 3) ∧ (b = 1 ∨ b = 3)) ∨ (clash P E p o = 1 ∧ a ≤ 2 ∧ b ≤ 2) := by
  unfold clash at h ⊢
  rw [ha, hb] at h ⊢
  split at h <;> simp_all
/-- They name no slot together that either writes. -/
theorem slots_spec {o p : Oper} (h : slotsOK ops o p = true) : (∀ t, p.dst = some t → t ∉ names o ∧ gSlot ops o ≠ some t) ∧ (∀ t, o.dst = some t → t ∉ names p ∧ gSlot ops p ≠ some t) := by
  unfold slotsOK at h
  simp only [Bool.and_eq_true] at h
  refine ⟨fun t ht => ?_, fun t ht => ?_⟩
  · have := h.1; rw [ht] at this; simpa using this
  · have := h.2; rw [ht] at this; simpa using this
theorem ev_put {sl : SL} {d : Option Nat} {v : PV} {z : Operand} (h : ∀ t, z = .tmp t → d ≠ some t) : ev E (putS d v sl) z = ev E sl z := by
  cases z <;> simp only [ev]
  case tmp t => rw [getS_put, if_neg (h t rfl)]
/-- Two steps, the other way round. -/
theorem swap_steps (hro : ∀ f, E.ro f = false) (hrov : E.rov = false) {N : Nat} {oi oj : Oper} {x x1 x2 : SL × OB} (hy : Hyp C N x) (hsl : slotsOK ops oj oi = true) (hcl : clash P E oi.op oj.op < 2)
    (hdis : clash P E oi.op oj.op = 1 → dis (accs E x.1 oi.op) (accs E x1.1 oj.op) = some ()) (h1 : stepA P E Φ ops oi x = some x1) (h2 : stepA P E Φ ops oj x1 = some x2) :
    ∃ x1' x2', stepA P E Φ ops oj x = some x1' ∧ accs E x.1 oj.op = accs E x1.1 oj.op ∧ accs E x1'.1 oi.op = accs E x.1 oi.op ∧ stepA P E Φ ops oi x1' = some x2' ∧ EqX x2' x2 := by
  obtain ⟨hc, hev⟩ := hy.dom
  obtain ⟨s1, s2⟩ := slots_spec hsl
  obtain ⟨sl, ob⟩ := x
  obtain ⟨ri, hri, rfl⟩ := stepA_U.1 h1
  obtain ⟨rj, hrj, rfl⟩ := stepA_U.1 h2
  simp only at hri hrj hc hev hdis ⊢
  -- slots
  have opnd : ∀ (o : Oper) z t, z ∈ o.op.operands → z = .tmp t → t ∈ names o := fun o z t hz e => by
    subst e
    unfold names
    refine List.mem_append_right _ (List.mem_filterMap.2 ⟨.tmp t, by simpa using hz, rfl⟩)
  have ej : ∀ z ∈ oj.op.operands, ev E (putS oi.dst ri.1 sl) z = ev E sl z := fun z hz => ev_put fun t e hd => (s1 t hd).1 (opnd oj z t hz e)
  have ei : ∀ z ∈ oi.op.operands, ev E sl z = ev E (putS oj.dst rj.1 sl) z := fun z hz => (ev_put fun t e hd => (s2 t hd).1 (opnd oi z t hz e)).symm
  have gj : ∀ t, gSlot ops oj = some t → getS (putS oi.dst ri.1 sl) t = getS sl t := fun t ht => by
    rw [getS_put, if_neg (fun hd => (s1 t hd).2 ht)]
  have gi : ∀ t, gSlot ops oi = some t → getS sl t = getS (putS oj.dst rj.1 sl) t := fun t ht => by
    rw [getS_put, if_neg (fun hd => (s2 t hd).2 ht)]
  have aj : accs E (putS oi.dst ri.1 sl) oj.op = accs E sl oj.op := accs_sl ej
  have ai : accs E sl oi.op = accs E (putS oj.dst rj.1 sl) oi.op := accs_sl ei
  rw [aj] at hdis
  generalize hci : memC P E oi.op = ci
  generalize hcj : memC P E oj.op = cj
  have hcl' := clash_lt hci hcj hcl
  let Ki : Nat → Prop := fun k => ci ≠ 0 ∧ dom ob k ∧ (ci ≤ 2 → k ∈ refsL (accs E sl oi.op))
  let Kj : Nat → Prop := fun k => cj ≠ 0 ∧ dom ob k ∧ (cj ≤ 2 → k ∈ refsL (accs E sl oj.op))
  have accd : ∀ (o : Op), ∀ k ∈ refsL (accs E sl o), dom ob k := by
    intro o k hk
    have aux : ∀ l : List Operand, k ∈ refsL (evs E sl l) → dom ob k := by
      intro l
      induction l with
      | nil => intro h; simp [evs, refsL] at h
      | cons z r ih =>
        intro h
        simp only [evs, refsL, List.mem_append] at h
        rcases h with h | h
        · exact hev E z k h
        · exact ih h
    cases o <;> simp only [accs] at hk <;> first
      | (simp [refsL] at hk; done)
      | exact aux [_] hk
      | exact aux [_, _] hk
      | exact aux _ hk
  have excl : ∀ k, Ki k → Kj k → (ci = 2 ∨ ci = 4) ∨ (cj = 2 ∨ cj = 4) → False := by
    rintro k ⟨a1, a2, a3⟩ ⟨b1, b2, b3⟩ h
    rcases hcl' with h' | h' | h' | ⟨h', h3, h4⟩
    · exact a1 h'
    · exact b1 h'
    · omega
    · have := hdis h'
      unfold dis at this
      split at this
      · cases this
      · rename_i hn
        exact hn (List.any_eq_true.2 ⟨k, a3 h3, by simpa using b3 h4⟩)
  have KiC : ci = 3 ∨ ci = 4 → (∀ z ∈ oi.op.operands, ∀ k ∈ refs (ev E sl z), Ki k) ∧ Clo Ki ob := fun h =>
    ⟨fun z _ k hk => ⟨by omega, hev E z k hk, fun _ => by omega⟩, fun k hk j hj => ⟨by omega, hc k hk.2.1 j hj, fun _ => by omega⟩⟩
  have ui : Upd ci Ki ob ri.2 := ((stepU_LU (P := P) (Φ := Φ) (ops := ops) (K := Ki) (ob := ob) (ob' := ob) hro hrov hci (fun z _ => rfl) (fun t _ => rfl) (fun h k hk => ⟨h, accd _ k hk, fun _ => hk⟩) KiC (fun k _ => sameF.refl _) (fun _ k _ => rfl)) ri hri).2
  have agj : AgF Kj (ri.2 ++ ob) ob := by
    intro k hk
    rw [getO_app]
    cases hu : getO ri.2 k with
    | none => exact sameF.refl _
    | some X =>
      rcases ui k X hu with h | ⟨h, h'⟩ | ⟨h, _, Y, hY, rfl⟩
      · exact absurd h hk.2.1
      · exact (excl k h hk (.inl h')).elim
      · rw [hY]; rfl
  have agje : cj = 2 ∨ cj = 4 → AgE Kj (ri.2 ++ ob) ob := by
    intro h2 k hk
    rw [getO_app]
    cases hu : getO ri.2 k with
    | none => rfl
    | some X =>
      rcases ui k X hu with h | ⟨h, h'⟩ | ⟨h, _, Y, hY, rfl⟩
      · exact absurd h hk.2.1
      · exact (excl k h hk (.inl h')).elim
      · exact (excl k h hk (.inr h2)).elim
  have hj := (stepU_LU (P := P) (Φ := Φ) (ops := ops) (K := Kj) (ob := ri.2 ++ ob) (ob' := ob) hro hrov hcj ej gj
    (fun h k hk => by rw [aj] at hk; exact ⟨h, accd _ k hk, fun _ => hk⟩)
    (fun h => ⟨fun z hz k hk => by rw [ej z hz] at hk; exact ⟨by omega, hev E z k hk, fun _ => by omega⟩, fun k hk j hj => by
      rw [refsX_F (agj k hk)] at hj
      exact ⟨by omega, hc k hk.2.1 j hj, fun _ => by omega⟩⟩) agj agje) rj hrj
  have hj1 := hj.1 (fun k _ hk => by
    rw [getO_app] at hk
    split at hk
    · cases hk
    · exact hk)
  have uj := hj.2
  have app1 : ∀ k, getO (ri.2 ++ ob) k = none → getO ri.2 k = none ∧ getO ob k = none := fun k hk => by
    rw [getO_app] at hk
    split at hk
    · cases hk
    · rename_i h; exact ⟨h, hk⟩
  have agi : AgF Ki ob (rj.2 ++ ob) := by
    intro k hk
    rw [getO_app]
    cases hu : getO rj.2 k with
    | none => exact sameF.refl _
    | some X =>
      rcases uj k X hu with h | ⟨h, h'⟩ | ⟨h, _, Y, hY, rfl⟩
      · exact absurd (app1 k h).2 hk.2.1
      · exact (excl k hk h (.inr h')).elim
      · have := agj k h
        rw [hY] at this
        unfold sameF at this ⊢
        rw [← this]; rfl
  have agie : ci = 2 ∨ ci = 4 → AgE Ki ob (rj.2 ++ ob) := by
    intro h2 k hk
    rw [getO_app]
    cases hu : getO rj.2 k with
    | none => rfl
    | some X =>
      rcases uj k X hu with h | ⟨h, h'⟩ | ⟨h, _, Y, hY, rfl⟩
      · exact absurd (app1 k h).2 hk.2.1
      · exact (excl k hk h (.inr h')).elim
      · exact (excl k hk h (.inl h2)).elim
  have hi := (stepU_LU (P := P) (Φ := Φ) (ops := ops) (K := Ki) (ob := ob) (ob' := rj.2 ++ ob) hro hrov hci ei gi (fun h k hk => ⟨h, accd _ k hk, fun _ => hk⟩) KiC agi agie) ri hri
  have hi1 := hi.1 (fun k hk hn => by
    rw [getO_app]
    cases hu : getO rj.2 k with
    | none => exact hn
    | some X =>
      rcases uj k X hu with h | ⟨h, _⟩ | ⟨h, _⟩
      · exact absurd (app1 k h).1 hk
      · exact absurd hn h.2.1
      · exact absurd hn h.2.1)
  refine ⟨(putS oj.dst rj.1 sl, rj.2 ++ ob), (putS oi.dst ri.1 (putS oj.dst rj.1 sl), ri.2 ++ (rj.2 ++ ob)), stepA_U.2 ⟨rj, hj1, rfl⟩, aj.symm, ai.symm, stepA_U.2 ⟨ri, hi1, rfl⟩, fun t => ?_, fun k => ?_⟩
  · simp only [getS_put]
    by_cases e1 : oi.dst = some t
    · have : oj.dst ≠ some t := fun e2 => (s2 t e2).1 (by unfold names; rw [e1]; simp)
      rw [if_pos e1, if_neg this, if_pos e1]
    · rw [if_neg e1, if_neg e1]
  · simp only [getO_app]
    cases hu : getO ri.2 k with
    | none => simp only
    | some X =>
      cases hv : getO rj.2 k with
      | none => simp only
      | some Y =>
        simp only [Option.some.injEq]
        rcases uj k Y hv with h | ⟨h, h'⟩ | ⟨h, hcj', Z, hZ, rfl⟩
        · have := (app1 k h).1; rw [hu] at this; cases this
        · rcases ui k X hu with g | ⟨g, _⟩ | ⟨g, _⟩
          · exact absurd g h.2.1
          · exact (excl k g h (.inr h')).elim
          · exact (excl k g h (.inr h')).elim
        · rw [getO_app_some hu] at hZ
          injection hZ with hZ; subst hZ
          rcases ui k X hu with g | ⟨g, g'⟩ | ⟨g, _, W, _, rfl⟩
          · exact absurd g h.2.1
          · exact (excl k g h (.inl g')).elim
          · rfl
end
end Go.Proofs.YtcimkkcajkmfoaaDoor
