import Derived.Test.YtnkapponcbgbhaaLocC
import Derived.OrdersIn
set_option linter.all false
namespace Go.Proofs.Ytnkapponcbgbhaa
section
open Go
def EqX (x y : SL × OB) : Prop := (∀ t, getS x.1 t = getS y.1 t) ∧ ∀ o, getO x.2 o = getO y.2 o
theorem EqX.refl (x : SL × OB) : EqX x x := ⟨fun _ => rfl, fun _ => rfl⟩
theorem EqX.symm {x y : SL × OB} (h : EqX x y) : EqX y x := ⟨fun t => (h.1 t).symm, fun o => (h.2 o).symm⟩
theorem EqX.trans {x y z : SL × OB} (h : EqX x y) (g : EqX y z) : EqX x z := ⟨fun t => (h.1 t).trans (g.1 t), fun o => (h.2 o).trans (g.2 o)⟩
section
variable {C : Ctx} {γ : Gh} {w : World} {tmps : Array Value}
theorem St.eqX {x y : SL × OB} (S : St C γ w tmps x.1 x.2) (h : EqX x y) : St C γ w tmps y.1 y.2 :=
  { S with
    slot := fun t => by rw [← h.1 t]; exact S.slot t
    obj := fun o X hX => S.obj o X (by rw [h.2 o]; exact hX)
    dom := fun o i hi => by
      obtain ⟨X, hX⟩ := S.dom o i hi
      exact ⟨X, by rw [← h.2 o]; exact hX⟩
    unf := fun o X i b hX => S.unf o X i b (by rw [h.2 o]; exact hX) }
end
section
variable {fid : Nat → Nat} {γ : Gh} {h : Array Obj} {k : Nat}
mutual
theorem RAt_refs : ∀ (v : PV) (cs : Array Value) (off : Nat), RAt fid γ h cs off v → k ∈ refs v → ∃ i, γ.mu k = some i
  | .b _, _, _, _, H | .i _ _, _, _, _, H | .s _, _, _, _, H | .blob _ _, _, _, _, H | .np, _, _, _, H | .ni, _, _, _, H | .nm, _, _, _, H | .nf, _, _, _, H | .ub, _, _, _, H | .un, _, _, _, H | .e _, _, _, _, H | .l _ _, _, _, _, H | .ln _ _, _, _, _, H | .q _ _ _, _, _, _, H => by simp [refs] at H
  | .sl o ver lo n, cs, off, m, H => by
    simp only [RAt] at m; simp [refs] at H; subst H
    obtain ⟨i, hi, _⟩ := m; exact ⟨i, hi⟩
  | .bs o o' lo n, cs, off, m, H => by
    simp only [RAt] at m; simp [refs] at H; subst H
    obtain ⟨i, hi, _⟩ := m; exact ⟨i, hi⟩
  | .p o ver j o' bi, cs, off, m, H => by
    simp only [RAt] at m; simp [refs] at H; subst H
    obtain ⟨i, hi, _⟩ := m; exact ⟨i, hi⟩
  | .agg xs, cs, off, m, H => by
    simp only [RAt] at m; simp only [refs] at H
    obtain ⟨arr, _, _, m⟩ := m
    exact RCells_refs xs arr 0 m H
  | .tup vs, cs, off, m, H => by
    simp only [RAt] at m; simp only [refs] at H
    obtain ⟨arr, _, _, m⟩ := m
    exact RL_refs vs arr 0 m H
  | .fn g fs cap, cs, off, m, H => by
    simp only [RAt] at m; simp only [refs, List.mem_append] at H
    obtain ⟨f0, a1, a2, _, _, ⟨_, m1⟩, _, m2⟩ := m
    rcases H with H | H
    · exact RL_refs fs a1 0 m1 H
    · exact RL_refs cap a2 0 m2 H
  | .y o n k, cs, off, m, H => by
    simp only [RAt] at m; simp [refs] at H; subst H
    obtain ⟨i, hi, _⟩ := m; exact ⟨i, hi⟩
  | .m o, cs, off, m, H => by
    simp only [RAt] at m; simp [refs] at H; subst H
    obtain ⟨i, hi, _⟩ := m; exact ⟨i, hi⟩
  | .pan _, cs, off, m, H => by simp only [RAt] at m
  | .ifc t v, cs, off, m, H => by
    simp only [RAt] at m; simp only [refs] at H
    obtain ⟨x, _, m⟩ := m
    exact RAt_refs v #[x] 0 m H
theorem RCells_refs : ∀ (l : List PV) (cs : Array Value) (off : Nat), RCells fid γ h cs off l → k ∈ refsL l → ∃ i, γ.mu k = some i
  | [], _, _, _, H => by simp [refsL] at H
  | v :: r, cs, off, m, H => by
    simp only [RCells] at m; simp only [refsL, List.mem_append] at H
    rcases H with H | H
    · exact RAt_refs v cs off m.1.2 H
    · exact RCells_refs r cs _ m.2 H
theorem RL_refs : ∀ (l : List PV) (cs : Array Value) (off : Nat), RL fid γ h cs off l → k ∈ refsL l → ∃ i, γ.mu k = some i
  | [], _, _, _, H => by simp [refsL] at H
  | v :: r, cs, off, m, H => by
    simp only [RL] at m; simp only [refsL, List.mem_append] at H
    obtain ⟨⟨x, _, m1⟩, m2⟩ := m
    rcases H with H | H
    · exact RAt_refs v _ _ m1 H
    · exact RL_refs r cs _ m2 H
end
theorem REls_refs : ∀ (l : List (List PV)) (cs : Array Value) (w off : Nat), REls fid γ h cs w off l → k ∈ refsEls l → ∃ i, γ.mu k = some i
  | [], _, _, _, _, H => by simp [refsEls] at H
  | x :: r, cs, w, off, m, H => by
    simp only [REls] at m; simp only [refsEls, List.mem_append] at H
    rcases H with H | H
    · exact RCells_refs x cs off m.2.1 H
    · exact REls_refs r cs w _ m.2.2 H
theorem ORel_refs {x : Obj'} {i : HI} (H : ORel fid γ h x i) (hk : k ∈ refsO x) : ∃ j, γ.mu k = some j := by
  obtain ⟨_, _, h3, h4⟩ := H
  unfold refsO at hk
  split at hk
  · simp at hk
  · rename_i hp
    cases hb : i.blk with
    | none =>
      simp only [hb] at h4
      have : x.els = [] := List.length_eq_zero_iff.1 (by omega)
      rw [this] at hk; simp [refsEls] at hk
    | some b =>
      simp only [hb] at h4
      obtain ⟨_, cs, _, _, h⟩ := h4
      rcases h with ⟨h, _⟩ | ⟨_, h⟩
      · exact absurd h hp
      · exact REls_refs _ _ _ _ h hk
end
section
variable {P : Program} {E : Env} {C : Ctx}
def Hyp (C : Ctx) (N : Nat) (x : SL × OB) : Prop := ∃ (a : Act) (γ : Gh) (w : World), a.tmps.size = N ∧ St C γ w a.tmps x.1 x.2
def dom (ob : OB) (k : Nat) : Prop := getO ob k ≠ none
theorem Hyp.dom {N : Nat} {x : SL × OB} (h : Hyp C N x) : Clo (dom x.2) x.2 ∧ ∀ (E : Env) (y : Operand), ∀ k ∈ refs (ev E x.1 y), dom x.2 k := by
  obtain ⟨a, γ, w, _, S⟩ := h
  have hd : ∀ k i, γ.mu k = some i → Go.Proofs.Ytnkapponcbgbhaa.dom x.2 k := fun k i hi => by
    obtain ⟨X, hX⟩ := S.dom k i hi
    unfold Go.Proofs.Ytnkapponcbgbhaa.dom; rw [hX]; simp
  refine ⟨fun k hk j hj => ?_, fun E y k hk => ?_⟩
  · cases hX : getO x.2 k with
    | none => exact absurd hX hk
    | some X =>
      rw [hX] at hj
      obtain ⟨i, _, ho⟩ := S.obj k X hX
      obtain ⟨j', hj'⟩ := ORel_refs ho hj
      exact hd _ _ hj'
  · cases y with
    | tmp t =>
      obtain ⟨i, hi⟩ := RAt_refs _ _ _ (S.slot t) hk
      exact hd _ _ hi
    | const v => exfalso; simp only [ev] at hk; unfold constP at hk; split at hk <;> simp [refs] at hk
    | global g =>
      simp only [ev] at hk
      split at hk <;> simp [refs] at hk
    | func f => simp [ev, refs, refsL] at hk
theorem Hyp.step {N : Nat} {x y : SL × OB} (h : Hyp C N x) (hE : E.fid = C.fid) (hG : E.glob = C.glob) (hro : True) (hrov : E.rov = false ∧ True) {Φ : Sem'} (hΦ : Sound P C.fid C.glob Φ) {ops : Array Oper} {o : Oper} (hd : ∀ t, o.dst = some t → t < N)
    (H : stepA P E Φ ops o x = some y) : Hyp C N y := by
  obtain ⟨a, γ, w, hs, S⟩ := h
  rcases step_ok hE hG hro hrov.1 S hΦ (by rw [hs]; exact hd) H with ⟨_, h2⟩ | ⟨_, h2⟩
  · rcases h2 with ⟨v, w', _, γ', S'⟩ | ⟨w', _, γ', S'⟩ | ⟨f, args, w', _, h⟩
    · exact ⟨_, γ', w', by rw [put_size]; exact hs, S'⟩
    · exact ⟨_, γ', w', by rw [put_size]; exact hs, S'⟩
    · obtain ⟨e, w'', _, ⟨v, _, γ', S'⟩, _⟩ := h []
      exact ⟨_, γ', w'', by rw [put_size]; exact hs, S'⟩
  · exact ⟨_, γ, w, by rw [put_size]; exact hs, h2⟩
noncomputable def stepU (P : Program) (E : Env) (Φ : Sem') (ops : Array Oper) (o : Oper) (sl : SL) (ob : OB) : Option Up :=
  match wantA ops o sl with
  | none => none
  | some true => opA P E Φ sl ob (nid o.dst) o.op
  | some false => some (.tup [], [])
variable {Φ : Sem'} {ops : Array Oper}
theorem stepA_U {o : Oper} {x y : SL × OB} : stepA P E Φ ops o x = some y ↔ ∃ r, stepU P E Φ ops o x.1 x.2 = some r ∧ y = (putS o.dst r.1 x.1, r.2 ++ x.2) := by
  unfold stepA stepU
  cases wantA ops o x.1 with
  | none => simp
  | some b => cases b with
    | true =>
      simp only [Option.map_eq_some_iff]
      exact ⟨fun ⟨r, h, e⟩ => ⟨r, h, e.symm⟩, fun ⟨r, h, e⟩ => ⟨r, h, e.symm⟩⟩
    | false =>
      simp only [Option.some.injEq]
      exact ⟨fun h => ⟨_, rfl, h.symm⟩, fun ⟨r, h, e⟩ => by subst h; exact e.symm⟩
theorem want_sl {o : Oper} {sl sl' : SL} (h : ∀ t, gSlot ops o = some t → getS sl t = getS sl' t) : wantA ops o sl = wantA ops o sl' := by
  unfold wantA
  unfold gSlot at h
  split
  · rfl
  · rename_i j w hg
    rw [hg] at h
    cases ht : (ops[j]?).bind (·.dst) with
    | none => rfl
    | some t => simp only; rw [h t ht]
theorem stepU_LU (hro : True) (hrov : E.rov = false ∧ True) {o : Oper} {c : Nat} {K : Nat → Prop} {sl sl' : SL} {ob ob' : OB} (hc : memC P E o.op = c) (hs : ∀ x ∈ o.op.operands, ev E sl x = ev E sl' x) (hg : ∀ t, gSlot ops o = some t → getS sl t = getS sl' t) (hK : c ≠ 0 → ∀ k ∈ refsL (accs E sl o.op), K k)
    (hK3 : c = 3 ∨ c = 4 → (∀ x ∈ o.op.operands, ∀ k ∈ refs (ev E sl x), K k) ∧ Clo K ob) (hF : AgF K ob ob') (hE' : c = 2 ∨ c = 4 → AgE K ob ob') :
    LU c K ob ob' (stepU P E Φ ops o sl ob) (stepU P E Φ ops o sl' ob') := by
  unfold stepU
  rw [← want_sl hg, ← opA_sl (ob := ob') hs]
  cases wantA ops o sl with
  | none => exact LU.none _
  | some b => cases b with
    | true => exact opA_LU hro hrov hc hK hK3 hF hE'
    | false => exact LU.eq rfl (fun r hr => by injection hr with hr; subst hr; exact Upd.nil)
theorem getS_put (d : Option Nat) (v : PV) (sl : SL) (t : Nat) : getS (putS d v sl) t = if d = some t then v else getS sl t := by
  cases d with
  | none => simp [putS]
  | some k => simp only [putS, getS, Option.some.injEq]
theorem stepA_resp (hro : True) (hrov : E.rov = false ∧ True) {o : Oper} {x x' y : SL × OB} (h : EqX x x') (H : stepA P E Φ ops o x = some y) : accs E x.1 o.op = accs E x'.1 o.op ∧ ∃ y', stepA P E Φ ops o x' = some y' ∧ EqX y y' := by
  have hev : ∀ z, ev E x.1 z = ev E x'.1 z := fun z => by cases z <;> simp only [ev]; exact h.1 _
  obtain ⟨r, hr, rfl⟩ := stepA_U.1 H
  have hl := stepU_LU (P := P) (Φ := Φ) (ops := ops) (K := fun _ => True) (ob := x.2) (ob' := x'.2) hro hrov (o := o) rfl (fun z _ => hev z) (fun t _ => h.1 t) (fun _ _ _ => trivial) (fun _ => ⟨fun _ _ _ _ => trivial, fun _ _ _ _ => trivial⟩) (fun k _ => sameF.of_eq (h.2 k)) (fun _ k _ => h.2 k)
  obtain ⟨g1, _⟩ := hl r hr
  refine ⟨accs_sl fun z _ => hev z, _, stepA_U.2 ⟨r, g1 (fun k _ hk => by rw [← h.2 k]; exact hk), rfl⟩, fun t => ?_, fun k => ?_⟩
  · rw [getS_put, getS_put, h.1 t]
  · rw [getO_app, getO_app, h.2 k]
theorem quiet_nil {Φ : Sem'} {sl : SL} {ob : OB} {d : Nat} {o : Op} {r : Up} (h : quiet E o = true) (H : opA P E Φ sl ob d o = some r) : r.2 = [] := by
  cases o <;> simp only [quiet, Bool.false_eq_true] at h
  case load t x =>
    simp only [opA, opV] at H
    split at H
    · rw [Option.map_eq_some_iff] at H
      obtain ⟨v, _, rfl⟩ := H
      rfl
    · simp [opO] at H
  case binOp op t x y g =>
    simp only [opA, opV] at H
    split at H
    · rw [Option.map_eq_some_iff] at H
      obtain ⟨v, _, rfl⟩ := H
      rfl
    · simp [opO] at H
  case call cl =>
    obtain ⟨callee, args, tys⟩ := cl
    cases callee with
    | invoke r m => simp at h
    | builtin b => simp at h
    | value f =>
      cases f <;> simp only [Bool.false_eq_true] at h
      simp only [opA, opV, opP, opO, h, if_true] at H
      unfold cr at H
      cases hq : ca Φ ob d (E.raw _) (E.fid _) (evs E sl args.toList) with
      | none => rw [hq] at H; simp [crX] at H
      | some q =>
        rw [hq] at H
        simp only [crX] at H
        split at H
        · injection H with H; subst H; rfl
        · cases H
theorem quietU {o : Oper} {sl : SL} {ob : OB} {r : Up} (h : quiet E o.op = true) (H : stepU P E Φ ops o sl ob = some r) : r.2 = [] := by
  unfold stepU at H
  split at H
  · cases H
  · exact quiet_nil h H
  · injection H with H; subst H; rfl
theorem stepU_sl {o : Oper} {sl sl' : SL} {ob : OB} (hs : ∀ x ∈ o.op.operands, ev E sl x = ev E sl' x) (hg : ∀ t, gSlot ops o = some t → getS sl t = getS sl' t) : stepU P E Φ ops o sl ob = stepU P E Φ ops o sl' ob := by
  unfold stepU
  rw [← want_sl hg, ← opA_sl (ob := ob) hs]
theorem clash_lt {a b : Nat} {p o : Op} (hq : ¬ (quiet E p && quiet E o) = true) (ha : memC P E p = a) (hb : memC P E o = b) (h : clash P E p o < 2) : a = 0 ∨ b = 0 ∨ ((a = 1 ∨ a = 3) ∧ (b = 1 ∨ b = 3)) ∨ (clash P E p o = 1 ∧ a ≤ 2 ∧ b ≤ 2) := by
  unfold clash at h ⊢
  rw [if_neg hq] at h ⊢
  rw [ha, hb] at h ⊢
  split at h <;> simp_all
theorem slots_spec {o p : Oper} (h : slotsOK ops o p = true) : (∀ t, p.dst = some t → t ∉ names o ∧ gSlot ops o ≠ some t) ∧ (∀ t, o.dst = some t → t ∉ names p ∧ gSlot ops p ≠ some t) := by
  unfold slotsOK at h
  simp only [Bool.and_eq_true] at h
  refine ⟨fun t ht => ?_, fun t ht => ?_⟩
  · have := h.1; rw [ht] at this; simpa using this
  · have := h.2; rw [ht] at this; simpa using this
theorem ev_put {sl : SL} {d : Option Nat} {v : PV} {z : Operand} (h : ∀ t, z = .tmp t → d ≠ some t) : ev E (putS d v sl) z = ev E sl z := by
  cases z <;> simp only [ev]
  case tmp t => rw [getS_put, if_neg (h t rfl)]
theorem apO_K1 {o ver lo n w : Nat} {gy : Bool} {ys : List (List PV)} {y : Option Obj'} {r : Up} (H : apO o ver lo n w gy ys y = some r) {k : Nat} {X : Obj'} (hX : getO r.2 k = some X) : k = o := apO_K H k X hX
theorem apE_K {d w : Nat} {gy : Bool} {ys : List (List PV)} {x : PV} {ob : OB} {r : Up} (H : apE ob d w gy ys x = some r) {k : Nat} {X : Obj'} (hX : getO r.2 k = some X) : getO ob k = none ∨ k ∈ refs x := by
  unfold apE at H
  split at H
  · split at H
    · obtain ⟨h1, rfl⟩ := newX_ok H
      rw [← (getO_one hX).1]; exact .inl h1
    · cases H
  · exact .inr (by rw [apO_K1 H hX]; simp [refs])
  · cases H
theorem apNE_K {d w : Nat} {ys : List (List PV)} {x : PV} {ob : OB} {r : Up} (H : apNE ob d w ys x = some r) {k : Nat} {X : Obj'} (hX : getO r.2 k = some X) : getO ob k = none := by
  unfold apNE at H
  split at H
  · split at H
    · obtain ⟨h1, rfl⟩ := newX_ok H
      rw [← (getO_one hX).1]; exact h1
    · cases H
  · split at H
    · obtain ⟨h1, rfl⟩ := newX_ok H
      rw [← (getO_one hX).1]; exact h1
    · cases H
  · cases H
theorem app_K {o : Oper} {sl : SL} {ob : OB} {r : Up} (ha : isApp o.op = true) (H : stepU P E Φ ops o sl ob = some r) {k : Nat} {X : Obj'} (hX : getO r.2 k = some X) : getO ob k = none ∨ k ∈ refsL ((accs E sl o.op).take 1) := by
  unfold stepU at H
  split at H
  · cases H
  · cases ho : o.op <;> rw [ho] at ha <;> try (simp [isApp] at ha; done)
    rename_i cl
    obtain ⟨callee, args, tys⟩ := cl
    cases callee <;> try (simp [isApp] at ha; done)
    rename_i b
    cases b <;> try (simp [isApp] at ha; done)
    rw [ho] at H
    simp only [opA, opV, opP, opO] at H
    simp only [accs]
    generalize args.toList = L at H ⊢
    rcases L with _ | ⟨x, _ | ⟨y, _ | ⟨z, L⟩⟩⟩ <;> try (simp at H; done)
    generalize tys.toList = T at H
    rcases T with _ | ⟨t, _ | ⟨u, _ | ⟨z, T⟩⟩⟩ <;> try (simp at H; done)
    simp only [evs, List.take_succ_cons, List.take_zero, refsL, List.append_nil]
    simp only at H
    split at H
    · rename_i q hq
      split at hq
      · split at hq
        · split at hq
          · split at hq
            · split at hq
              · injection hq with hq; subst hq
                unfold apzN at H
                split at H
                · split at H
                  · exact .inl (apNE_K H hX)
                  · cases H
                · cases H
              · injection hq with hq; subst hq
                unfold apN apNC at H
                split at H
                · exact .inl (apNE_K H hX)
                · cases H
            · split at hq
              · injection hq with hq; subst hq
                unfold apz at H
                split at H
                · split at H
                  · exact apE_K H hX
                  · cases H
                · cases H
              · injection hq with hq; subst hq
                unfold ap apC at H
                split at H
                · exact apE_K H hX
                · cases H
          · cases hq
        · cases hq
      · cases hq
    · cases H
  · injection H with H; subst H; cases hX
theorem swap_steps (hro : True) (hrov : E.rov = false ∧ True) {N : Nat} {oi oj : Oper} {x x1 x2 : SL × OB} (hy : Hyp C N x) (hsl : slotsOK ops oj oi = true) (hcl : clash P E oi.op oj.op < 2)
    (hdis : clash P E oi.op oj.op = 1 → dis (cutA E oi.op oj.op (accs E x.1 oi.op)) (cutA E oj.op oi.op (accs E x1.1 oj.op)) = some ()) (h1 : stepA P E Φ ops oi x = some x1) (h2 : stepA P E Φ ops oj x1 = some x2) :
    ∃ x1' x2', stepA P E Φ ops oj x = some x1' ∧ accs E x.1 oj.op = accs E x1.1 oj.op ∧ accs E x1'.1 oi.op = accs E x.1 oi.op ∧ stepA P E Φ ops oi x1' = some x2' ∧ EqX x2' x2 := by
  obtain ⟨hc, hev⟩ := hy.dom
  obtain ⟨s1, s2⟩ := slots_spec hsl
  obtain ⟨sl, ob⟩ := x
  obtain ⟨ri, hri, rfl⟩ := stepA_U.1 h1
  obtain ⟨rj, hrj, rfl⟩ := stepA_U.1 h2
  simp only at hri hrj hc hev hdis ⊢
  have opnd : ∀ (o : Oper) z t, z ∈ o.op.operands → z = .tmp t → t ∈ names o := fun o z t hz e => by
    subst e
    unfold names
    refine List.mem_append_right _ (List.mem_filterMap.2 ⟨.tmp t, by simpa using hz, rfl⟩)
  have ej : ∀ z ∈ oj.op.operands, ev E (putS oi.dst ri.1 sl) z = ev E sl z := fun z hz => ev_put fun t e hd => (s1 t hd).1 (opnd oj z t hz e)
  have ei : ∀ z ∈ oi.op.operands, ev E sl z = ev E (putS oj.dst rj.1 sl) z := fun z hz => (ev_put fun t e hd => (s2 t hd).1 (opnd oi z t hz e)).symm
  have gj : ∀ t, gSlot ops oj = some t → getS (putS oi.dst ri.1 sl) t = getS sl t := fun t ht => by
    rw [getS_put, if_neg (fun hd => (s1 t hd).2 ht)]
  have gi : ∀ t, gSlot ops oi = some t → getS sl t = getS (putS oj.dst rj.1 sl) t := fun t ht => by
    rw [getS_put, if_neg (fun hd => (s2 t hd).2 ht)]
  have aj : accs E (putS oi.dst ri.1 sl) oj.op = accs E sl oj.op := accs_sl ej
  have ai : accs E sl oi.op = accs E (putS oj.dst rj.1 sl) oi.op := accs_sl ei
  rw [aj] at hdis
  by_cases hq : (quiet E oi.op && quiet E oj.op) = true
  · have hq' := hq
    rw [Bool.and_eq_true] at hq'
    have qi := quietU hq'.1 hri
    have qj := quietU hq'.2 hrj
    rw [qi, List.nil_append, stepU_sl ej gj] at hrj
    have hi1 : stepU P E Φ ops oi (putS oj.dst rj.1 sl) (rj.2 ++ ob) = some ri := by
      rw [qj, List.nil_append, ← stepU_sl ei gi]; exact hri
    refine ⟨(putS oj.dst rj.1 sl, rj.2 ++ ob), (putS oi.dst ri.1 (putS oj.dst rj.1 sl), ri.2 ++ (rj.2 ++ ob)), stepA_U.2 ⟨rj, hrj, rfl⟩, aj.symm, ai.symm, stepA_U.2 ⟨ri, hi1, rfl⟩, fun t => ?_, fun k => ?_⟩
    · simp only [getS_put]
      by_cases e1 : oi.dst = some t
      · have : oj.dst ≠ some t := fun e2 => (s2 t e2).1 (by unfold names; rw [e1]; simp)
        rw [if_pos e1, if_neg this, if_pos e1]
      · rw [if_neg e1, if_neg e1]
    · rw [qi, qj]
  generalize hci : memC P E oi.op = ci
  generalize hcj : memC P E oj.op = cj
  have hcl' := clash_lt hq hci hcj hcl
  let Ki : Nat → Prop := fun k => ci ≠ 0 ∧ dom ob k ∧ (ci ≤ 2 → k ∈ refsL (accs E sl oi.op))
  let Kj : Nat → Prop := fun k => cj ≠ 0 ∧ dom ob k ∧ (cj ≤ 2 → k ∈ refsL (accs E sl oj.op))
  have accd : ∀ (o : Op), ∀ k ∈ refsL (accs E sl o), dom ob k := by
    intro o k hk
    have aux : ∀ l : List Operand, k ∈ refsL (evs E sl l) → dom ob k := by
      intro l
      induction l with
      | nil => intro h; simp [evs, refsL] at h
      | cons z r ih =>
        intro h
        simp only [evs, refsL, List.mem_append] at h
        rcases h with h | h
        · exact hev E z k h
        · exact ih h
    cases o <;> simp only [accs] at hk <;> first
      | (simp [refsL] at hk; done)
      | exact aux [_] hk
      | exact aux [_, _] hk
      | exact aux _ hk
  have excl0 : ∀ k, Ki k → Kj k → (ci = 2 ∨ ci = 4) ∨ (cj = 2 ∨ cj = 4) → ((isApp oi.op && quiet E oj.op) = true → k ∈ refsL ((accs E sl oi.op).take 1)) → ((isApp oj.op && quiet E oi.op) = true → k ∈ refsL ((accs E sl oj.op).take 1)) → False := by
    rintro k ⟨a1, a2, a3⟩ ⟨b1, b2, b3⟩ h e1 e2
    rcases hcl' with h' | h' | h' | ⟨h', h3, h4⟩
    · exact a1 h'
    · exact b1 h'
    · omega
    · have := hdis h'
      unfold dis at this
      split at this
      · cases this
      · rename_i hn
        refine hn (List.any_eq_true.2 ⟨k, ?_, ?_⟩)
        · unfold cutA
          split
          · rename_i hc; exact e1 hc
          · exact a3 h3
        · have : k ∈ refsL (cutA E oj.op oi.op (accs E sl oj.op)) := by
            unfold cutA
            split
            · rename_i hc; exact e2 hc
            · exact b3 h4
          simpa using this
  have excl : ∀ k X, getO ri.2 k = some X → Ki k → Kj k → (ci = 2 ∨ ci = 4) ∨ (cj = 2 ∨ cj = 4) → False := fun k X hX hi' hj' h => excl0 k hi' hj' h
    (fun e => (app_K (Bool.and_eq_true_iff.1 e).1 hri hX).resolve_left hi'.2.1) (fun e => by rw [quietU (Bool.and_eq_true_iff.1 e).2 hri] at hX; cases hX)
  have KiC : ci = 3 ∨ ci = 4 → (∀ z ∈ oi.op.operands, ∀ k ∈ refs (ev E sl z), Ki k) ∧ Clo Ki ob := fun h =>
    ⟨fun z _ k hk => ⟨by omega, hev E z k hk, fun _ => by omega⟩, fun k hk j hj => ⟨by omega, hc k hk.2.1 j hj, fun _ => by omega⟩⟩
  have ui : Upd ci Ki ob ri.2 := ((stepU_LU (P := P) (Φ := Φ) (ops := ops) (K := Ki) (ob := ob) (ob' := ob) hro hrov hci (fun z _ => rfl) (fun t _ => rfl) (fun h k hk => ⟨h, accd _ k hk, fun _ => hk⟩) KiC (fun k _ => sameF.refl _) (fun _ k _ => rfl)) ri hri).2
  have agj : AgF Kj (ri.2 ++ ob) ob := by
    intro k hk
    rw [getO_app]
    cases hu : getO ri.2 k with
    | none => exact sameF.refl _
    | some X =>
      rcases ui k X hu with h | ⟨h, h'⟩ | ⟨h, _, Y, hY, rfl⟩
      · exact absurd h hk.2.1
      · exact (excl k X hu h hk (.inl h')).elim
      · rw [hY]; rfl
  have agje : cj = 2 ∨ cj = 4 → AgE Kj (ri.2 ++ ob) ob := by
    intro h2 k hk
    rw [getO_app]
    cases hu : getO ri.2 k with
    | none => rfl
    | some X =>
      rcases ui k X hu with h | ⟨h, h'⟩ | ⟨h, _, Y, hY, rfl⟩
      · exact absurd h hk.2.1
      · exact (excl k X hu h hk (.inl h')).elim
      · exact (excl k _ hu h hk (.inr h2)).elim
  have hj := (stepU_LU (P := P) (Φ := Φ) (ops := ops) (K := Kj) (ob := ri.2 ++ ob) (ob' := ob) hro hrov hcj ej gj
    (fun h k hk => by rw [aj] at hk; exact ⟨h, accd _ k hk, fun _ => hk⟩)
    (fun h => ⟨fun z hz k hk => by rw [ej z hz] at hk; exact ⟨by omega, hev E z k hk, fun _ => by omega⟩, fun k hk j hj => by
      rw [refsX_F (agj k hk)] at hj
      exact ⟨by omega, hc k hk.2.1 j hj, fun _ => by omega⟩⟩) agj agje) rj hrj
  have exclj : ∀ k X, getO rj.2 k = some X → Ki k → Kj k → (ci = 2 ∨ ci = 4) ∨ (cj = 2 ∨ cj = 4) → False := fun k X hX hi' hj' h => excl0 k hi' hj' h
    (fun e => by rw [quietU (Bool.and_eq_true_iff.1 e).2 hrj] at hX; cases hX) (fun e => by
      rcases app_K (Bool.and_eq_true_iff.1 e).1 hrj hX with h' | h'
      · exact absurd h' (fun h' => hi'.2.1 (by
          rw [getO_app] at h'
          split at h'
          · cases h'
          · exact h'))
      · rw [aj] at h'; exact h')
  have hj1 := hj.1 (fun k _ hk => by
    rw [getO_app] at hk
    split at hk
    · cases hk
    · exact hk)
  have uj := hj.2
  have app1 : ∀ k, getO (ri.2 ++ ob) k = none → getO ri.2 k = none ∧ getO ob k = none := fun k hk => by
    rw [getO_app] at hk
    split at hk
    · cases hk
    · rename_i h; exact ⟨h, hk⟩
  have agi : AgF Ki ob (rj.2 ++ ob) := by
    intro k hk
    rw [getO_app]
    cases hu : getO rj.2 k with
    | none => exact sameF.refl _
    | some X =>
      rcases uj k X hu with h | ⟨h, h'⟩ | ⟨h, _, Y, hY, rfl⟩
      · exact absurd (app1 k h).2 hk.2.1
      · exact (exclj k X hu hk h (.inr h')).elim
      · have := agj k h
        rw [hY] at this
        unfold sameF at this ⊢
        rw [← this]; rfl
  have agie : ci = 2 ∨ ci = 4 → AgE Ki ob (rj.2 ++ ob) := by
    intro h2 k hk
    rw [getO_app]
    cases hu : getO rj.2 k with
    | none => rfl
    | some X =>
      rcases uj k X hu with h | ⟨h, h'⟩ | ⟨h, _, Y, hY, rfl⟩
      · exact absurd (app1 k h).2 hk.2.1
      · exact (exclj k X hu hk h (.inr h')).elim
      · exact (exclj k _ hu hk h (.inl h2)).elim
  have hi := (stepU_LU (P := P) (Φ := Φ) (ops := ops) (K := Ki) (ob := ob) (ob' := rj.2 ++ ob) hro hrov hci ei gi (fun h k hk => ⟨h, accd _ k hk, fun _ => hk⟩) KiC agi agie) ri hri
  have hi1 := hi.1 (fun k hk hn => by
    rw [getO_app]
    cases hu : getO rj.2 k with
    | none => exact hn
    | some X =>
      rcases uj k X hu with h | ⟨h, _⟩ | ⟨h, _⟩
      · exact absurd (app1 k h).1 hk
      · exact absurd hn h.2.1
      · exact absurd hn h.2.1)
  refine ⟨(putS oj.dst rj.1 sl, rj.2 ++ ob), (putS oi.dst ri.1 (putS oj.dst rj.1 sl), ri.2 ++ (rj.2 ++ ob)), stepA_U.2 ⟨rj, hj1, rfl⟩, aj.symm, ai.symm, stepA_U.2 ⟨ri, hi1, rfl⟩, fun t => ?_, fun k => ?_⟩
  · simp only [getS_put]
    by_cases e1 : oi.dst = some t
    · have : oj.dst ≠ some t := fun e2 => (s2 t e2).1 (by unfold names; rw [e1]; simp)
      rw [if_pos e1, if_neg this, if_pos e1]
    · rw [if_neg e1, if_neg e1]
  · simp only [getO_app]
    cases hu : getO ri.2 k with
    | none => simp only
    | some X =>
      cases hv : getO rj.2 k with
      | none => simp only
      | some Y =>
        simp only [Option.some.injEq]
        rcases uj k Y hv with h | ⟨h, h'⟩ | ⟨h, hcj', Z, hZ, rfl⟩
        · have := (app1 k h).1; rw [hu] at this; cases this
        · rcases ui k X hu with g | ⟨g, _⟩ | ⟨g, _⟩
          · exact absurd g h.2.1
          · exact (excl k X hu g h (.inr h')).elim
          · exact (excl k X hu g h (.inr h')).elim
        · rw [getO_app_some hu] at hZ
          injection hZ with hZ; subst hZ
          rcases ui k X hu with g | ⟨g, g'⟩ | ⟨g, _, W, _, rfl⟩
          · exact absurd g h.2.1
          · exact (excl k _ hu g h (.inl g')).elim
          · rfl
end
end
section
open Go
theorem idx_mem : ∀ {l r : List Nat} {i : Nat}, i ∈ l → idx (l ++ r) i < l.length
  | x :: l, r, i, h => by
    simp only [List.cons_append, idx, List.length_cons]
    by_cases e : x = i
    · rw [if_pos e]; omega
    · rw [if_neg e]
      have := idx_mem (l := l) (r := r) ((List.mem_cons.1 h).resolve_left (fun e' => e e'.symm))
      omega
theorem idx_at : ∀ {l r : List Nat} {i : Nat}, i ∉ l → idx (l ++ i :: r) i = l.length
  | [], r, i, _ => by simp [idx]
  | x :: l, r, i, h => by
    simp only [List.mem_cons, not_or] at h
    simp only [List.cons_append, idx, List.length_cons]
    rw [if_neg (fun e => h.1 e.symm), idx_at h.2]
theorem pig : ∀ (n : Nat) (l : List Nat), l.Nodup → (∀ i ∈ l, i < n) → l.length ≤ n ∧ (l.length = n → ∀ i, i < n → i ∈ l)
  | 0, l, _, hl => by
    have : l = [] := by
      cases l with
      | nil => rfl
      | cons x r => exact absurd (hl x (by simp)) (by omega)
    subst this
    exact ⟨Nat.le_refl _, fun _ i hi => by omega⟩
  | n + 1, l, hn, hl => by
    by_cases hin : n ∈ l
    · have h1 := pig n (l.erase n) (hn.erase n) (fun i hi => by
        have hi' := (hn.mem_erase_iff).1 hi
        have := hl i hi'.2
        have := hi'.1
        omega)
      rw [List.length_erase_of_mem hin] at h1
      have hpos := List.length_pos_of_mem hin
      refine ⟨by omega, fun hlen i hi => ?_⟩
      by_cases e : i = n
      · subst e; exact hin
      · exact List.mem_of_mem_erase (h1.2 (by omega) i (by omega))
    · have h1 := pig n l hn (fun i hi => by
        have := hl i hi
        have : i ≠ n := fun e => hin (e ▸ hi)
        omega)
      exact ⟨by omega, fun hlen => by omega⟩
section
variable {md : Region.Mode} {ops : Array Oper}
def Ord (md : Region.Mode) (ops : Array Oper) : Array Bool → List Nat → Prop
  | _, [] => True
  | listed, i :: l => i ∈ Region.ready md ops listed ∧ Ord md ops (listed.setIfInBounds i true) l
theorem getD_tt {listed : Array Bool} {i : Nat} (h : i < listed.size) : listed.getD i true = listed.getD i false := by simp [h]
theorem Ord.nodup : ∀ {l : List Nat} {listed : Array Bool}, Ord md ops listed l → (∀ i ∈ l, listed.getD i true = false) ∧ l.Nodup
  | [], listed, _ => ⟨fun i h => (by cases h), List.nodup_nil⟩
  | i :: l, listed, h => by
    obtain ⟨h1, h2⟩ := h
    obtain ⟨g1, g2⟩ := Ord.nodup h2
    have hi := (mem_ready.1 h1).1
    have hnot : i ∉ l := fun hin => by
      have := g1 i hin
      have hlt : i < listed.size := by
        rcases Nat.lt_or_ge i listed.size with h' | h'
        · exact h'
        · simp [Array.getElem?_eq_none h'] at hi
      simp [hlt] at this
    refine ⟨fun j hj => ?_, List.nodup_cons.2 ⟨hnot, g2⟩⟩
    rcases List.mem_cons.1 hj with rfl | hj
    · exact hi
    · have := g1 j hj
      rwa [getD_set_ne true (fun e : i = j => hnot (by rw [e]; exact hj))] at this
theorem Ord.edges : ∀ {l : List Nat} {listed : Array Bool}, Ord md ops listed l → ∀ i ∈ l, ∃ o, ops[i]? = some o ∧ ∀ e ∈ o.after, Region.binds md e = true → listed.getD e.on false = true ∨ (e.on ∈ l ∧ idx l e.on < idx l i)
  | [], listed, _, i, hi => by cases hi
  | i0 :: l, listed, h, i, hi => by
    have hnd := (Ord.nodup h).2
    obtain ⟨h1, h2⟩ := h
    by_cases e0 : i0 = i
    · subst e0
      obtain ⟨_, o, ho, hall⟩ := mem_ready.1 h1
      exact ⟨o, ho, fun e he hb => .inl (hall e he hb)⟩
    · have hil := (List.mem_cons.1 hi).resolve_left (fun e => e0 e.symm)
      obtain ⟨o, ho, hall⟩ := Ord.edges h2 i hil
      refine ⟨o, ho, fun e he hb => ?_⟩
      have pos : idx (i0 :: l) i = idx l i + 1 := by simp only [idx]; rw [if_neg e0]
      by_cases e1 : i0 = e.on
      · refine .inr ⟨by simp [e1], ?_⟩
        rw [pos]; simp only [idx]; rw [if_pos e1]; omega
      · rcases hall e he hb with h | ⟨g1, g2⟩
        · rw [getD_set_ne false e1] at h; exact .inl h
        · refine .inr ⟨List.mem_cons_of_mem _ g1, ?_⟩
          rw [pos]; simp only [idx]; rw [if_neg e1]; omega
theorem go_ord : ∀ (fuel t : Nat) (listed : Array Bool), Ord md ops listed (Region.linearise.go md ops fuel t listed [])
  | 0, t, listed => by simp [Region.linearise.go, Ord]
  | fuel + 1, t, listed => by
    simp only [Region.linearise.go]
    change Ord md ops listed (match (Region.ready md ops listed)[t % (Region.ready md ops listed).length]? with
      | some i => Region.linearise.go md ops fuel (t / (Region.ready md ops listed).length) (listed.setIfInBounds i true) [i]
      | none => [].reverse)
    cases hi : (Region.ready md ops listed)[t % (Region.ready md ops listed).length]? with
    | none => simp [Ord]
    | some i =>
      simp only []
      rw [linearise_go_acc, List.reverse_singleton, List.singleton_append]
      exact ⟨List.mem_of_getElem? hi, go_ord fuel _ _⟩
theorem ready_ne {W : List Nat} (hW : ∀ i ∈ W, ∃ o, ops[i]? = some o ∧ ∀ e ∈ o.after, Region.binds md e = true → e.on ∈ W ∧ idx W e.on < idx W i) {listed : Array Bool} (hs : listed.size = ops.size) :
    ∀ (n : Nat) (i : Nat), idx W i < n → i ∈ W → listed.getD i true = false → Region.ready md ops listed ≠ [] := by
  intro n
  induction n with
  | zero => intro i h; omega
  | succ n ih =>
    intro i hn hi hl
    obtain ⟨o, ho, hall⟩ := hW i hi
    by_cases hc : ∀ e ∈ o.after, Region.binds md e = true → listed.getD e.on false = true
    · intro e
      have := mem_ready.2 ⟨hl, o, ho, hc⟩
      rw [e] at this; cases this
    · have ⟨e, he⟩ := Classical.not_forall.1 hc
      have ⟨he1, he2⟩ := Classical.not_imp.1 he
      have ⟨he3, he4⟩ := Classical.not_imp.1 he2
      obtain ⟨g1, g2⟩ := hall e he1 he3
      obtain ⟨o', ho', _⟩ := hW _ g1
      have hlt : e.on < listed.size := by rw [hs]; exact (Array.getElem?_eq_some_iff.1 ho').1
      refine ih e.on (by omega) g1 ?_
      rw [getD_tt hlt]
      cases h : listed.getD e.on false
      · rfl
      · exact absurd h he4
theorem go_all (hne : ∀ listed : Array Bool, listed.size = ops.size → (∃ i, i < ops.size ∧ listed.getD i true = false) → Region.ready md ops listed ≠ []) : ∀ (fuel t : Nat) (listed : Array Bool), listed.size = ops.size →
    (Region.linearise.go md ops fuel t listed []).length = fuel ∨ ∀ i, i < ops.size → listed.getD i true = true ∨ i ∈ Region.linearise.go md ops fuel t listed []
  | 0, t, listed, _ => by simp [Region.linearise.go]
  | fuel + 1, t, listed, hs => by
    simp only [Region.linearise.go]
    change (match (Region.ready md ops listed)[t % (Region.ready md ops listed).length]? with
      | some i => Region.linearise.go md ops fuel (t / (Region.ready md ops listed).length) (listed.setIfInBounds i true) [i]
      | none => [].reverse).length = fuel + 1 ∨ ∀ j, j < ops.size → listed.getD j true = true ∨ j ∈ (match (Region.ready md ops listed)[t % (Region.ready md ops listed).length]? with
      | some i => Region.linearise.go md ops fuel (t / (Region.ready md ops listed).length) (listed.setIfInBounds i true) [i]
      | none => [].reverse)
    cases hi : (Region.ready md ops listed)[t % (Region.ready md ops listed).length]? with
    | none =>
      have hnil : Region.ready md ops listed = [] := by
        cases hr : Region.ready md ops listed with
        | nil => rfl
        | cons x xs =>
          rw [hr] at hi
          have hlt : t % (x :: xs).length < (x :: xs).length := Nat.mod_lt _ (by simp)
          simp at hi
          simp at hlt
          omega
      refine .inr fun i hin => .inl ?_
      cases h : listed.getD i true
      · exact absurd hnil (hne listed hs ⟨i, hin, h⟩)
      · rfl
    | some i =>
      simp only []
      rw [linearise_go_acc, List.reverse_singleton, List.singleton_append]
      rcases go_all hne fuel (t / (Region.ready md ops listed).length) (listed.setIfInBounds i true) (by simp [hs]) with h | h
      · exact .inl (by simp [h])
      · refine .inr fun j hj => ?_
        by_cases e : i = j
        · exact .inr (by simp [e])
        · rcases h j hj with h | h
          · exact .inl (by rwa [getD_set_ne true e] at h)
          · exact .inr (List.mem_cons_of_mem _ h)
structure Full (md : Region.Mode) (ops : Array Oper) (l : List Nat) : Prop where
  nd : l.Nodup
  lt : ∀ i ∈ l, i < ops.size
  all : ∀ i, i < ops.size → i ∈ l
  edge : ∀ i ∈ l, ∃ o, ops[i]? = some o ∧ ∀ e ∈ o.after, Region.binds md e = true → e.on ∈ l ∧ idx l e.on < idx l i
theorem lin_ord (t : Nat) : let l := Region.linearise md ops t; l.Nodup ∧ (∀ i ∈ l, i < ops.size) ∧ ∀ i ∈ l, ∃ o, ops[i]? = some o ∧ ∀ e ∈ o.after, Region.binds md e = true → e.on ∈ l ∧ idx l e.on < idx l i := by
  have ho := go_ord (md := md) (ops := ops) ops.size t (Array.replicate ops.size false)
  change Ord md ops _ (Region.linearise md ops t) at ho
  refine ⟨(Ord.nodup ho).2, fun i hi => ?_, fun i hi => ?_⟩
  · obtain ⟨o, h, _⟩ := Ord.edges ho i hi
    exact (Array.getElem?_eq_some_iff.1 h).1
  · obtain ⟨o, h, hall⟩ := Ord.edges ho i hi
    refine ⟨o, h, fun e he hb => (hall e he hb).resolve_left ?_⟩
    by_cases hl : e.on < ops.size
    · simp [hl]
    · simp [hl]
theorem lin_full (W : List Nat) (hW : ∀ i ∈ W, ∃ o, ops[i]? = some o ∧ ∀ e ∈ o.after, Region.binds md e = true → e.on ∈ W ∧ idx W e.on < idx W i) (hall : ∀ i, i < ops.size → i ∈ W) (t : Nat) : Full md ops (Region.linearise md ops t) := by
  obtain ⟨h1, h2, h3⟩ := lin_ord (md := md) (ops := ops) t
  refine ⟨h1, h2, ?_, h3⟩
  rcases go_all (md := md) (ops := ops) (fun listed hs ⟨i, hi, hl⟩ => ready_ne hW hs _ i (Nat.lt_succ_self _) (hall i hi) hl) ops.size t (Array.replicate ops.size false) (by simp) with h | h
  · exact (pig _ _ h1 h2).2 h
  · intro i hi
    rcases h i hi with h | h
    · simp [hi] at h
    · exact h
theorem idx_range : ∀ (n k i : Nat), k ≤ i → i < k + n → idx (List.range' k n) i = i - k
  | 0, k, i, h1, h2 => by omega
  | n + 1, k, i, h1, h2 => by
    simp only [List.range'_succ, idx]
    by_cases e : k = i
    · rw [if_pos e]; omega
    · rw [if_neg e, idx_range n (k + 1) i (by omega) (by omega)]; omega
theorem sched_full (hok : ∀ (j : Nat) (o : Oper), ops[j]? = some o → ∀ e ∈ o.after, e.on < j ∨ (∃ r, e.ground = .gcOnly r)) (hdep : Region.departs ops = false ∨ (Region.linearise .gc ops 0).length = ops.size) (mixed : Bool) (t : Nat) :
    ∃ md, Full md ops (Region.schedule mixed ops t) := by
  have text : ∀ (md : Region.Mode) t, (∀ e : Edge, (∃ r, e.ground = .gcOnly r) → Region.binds md e = false) → Full md ops (Region.linearise md ops t) := by
    intro md t hmd
    refine lin_full (List.range' 0 ops.size) ?_ (fun i hi => by simp [hi]) t
    intro i hi
    have hi : i < ops.size := by simpa using hi
    refine ⟨ops[i], by simp [hi], fun e he hb => ?_⟩
    rcases hok i _ (by simp [hi]) e he with h | h
    · refine ⟨by simp; omega, ?_⟩
      rw [idx_range _ _ _ (Nat.zero_le _) (by omega), idx_range _ _ _ (Nat.zero_le _) (by omega)]; omega
    · rw [hmd e h] at hb; cases hb
  unfold Region.schedule
  split
  · exact ⟨.any, text .any t (fun e ⟨r, hr⟩ => by simp [Region.binds, hr])⟩
  · rename_i hm
    split
    · exact ⟨.text, text .text _ (fun e ⟨r, hr⟩ => by simp [Region.binds, hr])⟩
    · refine ⟨.gc, lin_full (Region.linearise .gc ops 0) ?_ ?_ _⟩
      · exact (lin_ord 0).2.2
      · have hd : (Region.linearise .gc ops 0).length = ops.size := hdep.resolve_left (fun h => hm (by simp [h]))
        exact (pig _ _ (lin_ord 0).1 (lin_ord 0).2.1).2 hd
def maskOf (o : Oper) (acc : Array Nat) : Nat := o.after.foldl (fun s e => if Region.binds .any e then s ||| 2 ^ e.on ||| acc.getD e.on 0 else s) 0
theorem mask_bit {acc : Array Nat} {i : Nat} : ∀ (l : List Edge) (s : Nat), (l.foldl (fun s e => if Region.binds .any e then s ||| 2 ^ e.on ||| acc.getD e.on 0 else s) s).testBit i = true → s.testBit i = true ∨ ∃ e ∈ l, Region.binds .any e = true ∧ (e.on = i ∨ (acc.getD e.on 0).testBit i = true)
  | [], s, h => .inl h
  | e :: l, s, h => by
    simp only [List.foldl_cons] at h
    rcases mask_bit l _ h with h | ⟨e', h1, h2⟩
    · split at h
      · rename_i hb
        simp only [Nat.testBit_or, Bool.or_eq_true] at h
        rcases h with (h | h) | h
        · exact .inl h
        · refine .inr ⟨e, by simp, hb, .inl ?_⟩
          rw [Nat.testBit_two_pow] at h; simpa using h
        · exact .inr ⟨e, by simp, hb, .inr h⟩
      · exact .inl h
    · exact .inr ⟨e', List.mem_cons_of_mem _ h1, h2⟩
theorem before_go : ∀ (L : List Oper) (acc : Array Nat), let res := L.foldl (fun acc o => acc.push (maskOf o acc)) acc
    (∀ k, k < acc.size → res[k]? = acc[k]?) ∧ ∀ (k : Nat) (o : Oper), L[k]? = some o → ∃ a : Array Nat, a.size = acc.size + k ∧ (∀ m, m < a.size → res[m]? = a[m]?) ∧ res[acc.size + k]? = some (maskOf o a)
  | [], acc => ⟨fun _ _ => rfl, fun k o h => by simp at h⟩
  | o :: L, acc => by
    obtain ⟨h1, h2⟩ := before_go L (acc.push (maskOf o acc))
    simp only [List.foldl_cons]
    refine ⟨fun k hk => ?_, fun k o' hk => ?_⟩
    · rw [h1 k (by simp; omega)]
      rw [Array.getElem?_push]
      rw [if_neg (by omega)]
    · rcases k with _ | k
      · simp at hk; subst hk
        refine ⟨acc, rfl, fun m hm => ?_, ?_⟩
        · rw [h1 m (by simp; omega), Array.getElem?_push, if_neg (by omega)]
        · rw [Nat.add_zero, h1 acc.size (by simp)]; simp
      · obtain ⟨a, g1, g2, g3⟩ := h2 k o' (by simpa using hk)
        refine ⟨a, by rw [g1]; simp; omega, g2, ?_⟩
        rw [show acc.size + (k + 1) = (acc.push (maskOf o acc)).size + k by simp; omega]; exact g3
theorem before_spec {i j : Nat} (hj : j < ops.size) (h : ((Region.before ops).getD j 0).testBit i = true) :
    ∃ e ∈ ops[j].after, Region.binds .any e = true ∧ (e.on = i ∨ (e.on < j ∧ ((Region.before ops).getD e.on 0).testBit i = true)) := by
  have hb : Region.before ops = ops.toList.foldl (fun acc o => acc.push (maskOf o acc)) #[] := by
    unfold Region.before maskOf
    rw [← Array.foldl_toList]
  obtain ⟨_, h2⟩ := before_go ops.toList #[]
  rw [← hb] at h2
  obtain ⟨a, g1, g2, g3⟩ := h2 j ops[j] (by simp [hj])
  have hv : (Region.before ops).getD j 0 = maskOf ops[j] a := by
    have : (Region.before ops)[j]? = some (maskOf ops[j] a) := by simpa using g3
    rw [Array.getD_eq_getD_getElem?, this]; rfl
  rw [hv] at h
  unfold maskOf at h
  rw [← Array.foldl_toList] at h
  rcases mask_bit _ _ h with h | ⟨e, h1, h2, h3⟩
  · simp at h
  · refine ⟨e, by simpa using h1, h2, h3.imp id fun h => ?_⟩
    by_cases hlt : e.on < a.size
    · have : e.on < j := by simpa [g1] using hlt
      refine ⟨this, ?_⟩
      rw [Array.getD_eq_getD_getElem?, g2 e.on hlt, ← Array.getD_eq_getD_getElem?]; exact h
    · rw [Array.getD_eq_getD_getElem?, Array.getElem?_eq_none (by omega)] at h
      simp at h
theorem binds_any {md : Region.Mode} {e : Edge} (h : Region.binds .any e = true) : Region.binds md e = true := by
  unfold Region.binds at h ⊢
  split at h <;> simp_all
theorem Full.prec {l : List Nat} (h : Full md ops l) : ∀ (n i j : Nat), j < n → j < ops.size → ((Region.before ops).getD j 0).testBit i = true → idx l i < idx l j := by
  intro n
  induction n with
  | zero => intro i j hj; omega
  | succ n ih =>
    intro i j hn hj hb
    obtain ⟨e, he, hbd, hc⟩ := before_spec hj hb
    obtain ⟨o, ho, hall⟩ := h.edge j (h.all j hj)
    have : o = ops[j] := by
      have h1 : ops[j]? = some ops[j] := by simp [hj]
      rw [ho] at h1; injection h1
    subst this
    obtain ⟨h1, h2⟩ := hall e he (binds_any hbd)
    rcases hc with rfl | ⟨hc1, hc2⟩
    · exact h2
    · have := ih i e.on (by omega) (h.lt _ h1) hc2
      omega
end
end
end Go.Proofs.Ytnkapponcbgbhaa
