import Derived.Test.YtnkapponcbgbhaaFinA
set_option linter.all false
namespace Go.Proofs.Ytnkapponcbgbhaa
open Go
def rdR (tmps : Array Value) : ResultVar → Sem Value
  | .tmp t => pure (tmps.getD t undef)
  | .cell p t => do loadVar t (← asAddr (tmps.getD p undef))
theorem results_eq (fn : Func) (tmps : Array Value) : results fn tmps = (do let vs ← fn.results.mapM (rdR tmps); pure (if h : vs.size = 1 then vs[0] else .tuple vs)) := by
  unfold results
  congr 1
section
variable {P : Program} {E : Env} {C : Ctx}
theorem resK_ok (hE : E.fid = C.fid) (hG : E.glob = C.glob) {γ : Gh} {w : World} {a : Act} {sl : SL} {ob : OB} (S : St C γ w a.tmps sl ob) {r : R} : ∀ (rs : List ResultVar) (k : List PV → Option R), resK P sl ob rs k = some r →
    ∃ vs xs, k vs = some r ∧ vs.length = rs.length ∧ xs.length = rs.length ∧ RL C.fid γ w.heap xs.toArray 0 vs ∧
      (rs.mapM (rdR a.tmps)).run P w = .ok xs w := by
  intro rs
  induction rs with
  | nil => intro k H; exact ⟨[], [], H, rfl, rfl, by simp only [RL], by simp⟩
  | cons rv rs ih =>
    intro k H
    have step : ∀ (x : Value) (v : PV) (g : ResultVar → Sem Value), (g rv).run P w = .ok x w → RV C.fid γ w.heap x v → (∃ vs xs, k (v :: vs) = some r ∧ vs.length = rs.length ∧ xs.length = rs.length ∧ RL C.fid γ w.heap xs.toArray 0 vs ∧ (rs.mapM g).run P w = .ok xs w) →
        ∃ vs xs, k vs = some r ∧ vs.length = (rv :: rs).length ∧ xs.length = (rv :: rs).length ∧ RL C.fid γ w.heap xs.toArray 0 vs ∧ ((rv :: rs).mapM g).run P w = .ok xs w := by
      rintro x v g hx hv ⟨vs, xs, h1, h2, h3, h4, h5⟩
      refine ⟨v :: vs, x :: xs, h1, by simp [h2], by simp [h3], ?_, ?_⟩
      · simp only [RL]
        refine ⟨⟨x, by simp, hv⟩, RL_at (fun i y hi hy => ?_) h4⟩
        rw [Nat.zero_add] at hy
        simpa [Nat.add_comm] using hy
      · simp only [List.mapM_cons, Sem.run_bind, hx, Result.andThen_ok, h5, Sem.run_pure]
    cases rv with
    | tmp t =>
      simp only [resK] at H
      refine step (a.tmps.getD t undef) (getS sl t) _ rfl (S.slot t) ?_
      exact ih (fun l => k (getS sl t :: l)) H
    | cell p ty =>
      simp only [resK] at H
      have hk : known P ty = true := by
        by_cases hk : known P ty = true
        · exact hk
        · rw [if_neg hk] at H; cases H
      rw [if_pos hk] at H
      obtain ⟨v, hv, H⟩ := bnd_some H
      have hres : ∃ y, (do loadVar ty (← asAddr (a.tmps.getD p undef)) : Sem Value).run P w = .ok y w ∧ RV C.fid γ w.heap y v := by
        have hl : ∃ y, (Instr.loadAt ty (a.tmps.getD p undef)).run P w = .ok y w ∧ RV C.fid γ w.heap y v := by
          cases ha : aggT P ty with
          | true => rw [ha] at hv; exact lN_ok S (S.slot p) hk ha hv
          | false => rw [ha] at hv; exact l1_ok S (S.slot p) hk ha hv
        obtain ⟨y, hy, hyv⟩ := hl
        refine ⟨y, ?_, hyv⟩
        unfold Instr.loadAt Instr.sureAddr at hy
        cases hp : a.tmps.getD p undef with
        | pointer ad =>
          cases ad with
          | none => rw [hp] at hy; simp at hy
          | some ad => rw [hp] at hy; simpa [asAddr] using hy
        | _ => rw [hp] at hy; simp at hy
      obtain ⟨y, hy, hyv⟩ := hres
      refine step y v _ hy hyv ?_
      exact ih (fun l => k (v :: l)) H
theorem fin_ok {γ : Gh} {w : World} {act : Act} {sl : SL} {ob : OB} (S : St C γ w act.tmps sl ob) {m : Nat} {rw : List Nat} {vs : List PV} {xs : List Value} (hR : RL C.fid γ w.heap xs.toArray 0 vs) (hl : xs.length = vs.length) {r : PV} {out : List Obj'} (hkp : ∀ k, k < m → C.kp k) (hm0 : ∀ k i, C.g0.mu k = some i → k < m)
    (H : fin ob m rw vs = some (r, out)) : ∃ γ', Ret C γ' w (if h : xs.length = 1 then xs[0]'(by omega) else .tuple xs.toArray) r m out := by
  unfold fin at H
  split at H
  · rename_i ws os qs h1 h2
    simp only [Option.some.injEq, Prod.mk.injEq] at H
    obtain ⟨rfl, rfl⟩ := H
    generalize hall : refsL vs ++ refsOuts ob 0 m = all at h1
    let L := srcOs m ob all vs
    let γ' : Gh := { mu := srcH γ m L, im := fun b => γ.im b ∨ ∃ o j, m ≤ o ∧ some o ∉ L ∧ γ.mu o = some j ∧ j.blk = some b, gn := γ.gn }
    have hh : ∀ o, o ∈ L.filterMap id ↔ some o ∈ L := fun o => by simp
    have hgn : ∀ o i b, γ.mu o = some i → i.blk = some b → γ.gn b := fun o i b hi hb => by rw [S.gn]; exact S.gnew b (S.own o i b hi hb)
    have F : FinG γ γ' m (L.filterMap id) := by
      refine ⟨fun o i ho hi => ?_, fun g b h => ⟨.inl h.1, h.2⟩, fun o i b ho hn hi hb g => ⟨.inr ⟨o, i, ho, fun h => hn ((hh o).2 h), hi, hb⟩, fun _ => hgn o i b hi hb⟩⟩
      simp only [γ', srcH, if_pos ho]; exact hi
    obtain ⟨g1, g2, g3, g4⟩ := resOs_ok S (rest := refsOuts ob 0 m) (L := L) F (fun k => rfl) vs [] rw ws os xs.toArray 0 (by simpa [srcOs] using h1) (by simpa using hall.symm) rfl hh hR
    obtain ⟨q1, q2⟩ := outOs_ok m 0 qs h2
    have cnt : ∀ o, some o ∈ L → cntN o all = 1 := fun o ho => by
      obtain ⟨u, _, hu⟩ := srcOs_mem ho; exact (srcO_mem hu).2.2.2
    have src : ∀ k i, m ≤ k → srcH γ m L k = some i → (i.blk = none) ∨ ∃ o j, L[k - m]? = some (some o) ∧ some o ∈ L ∧ m ≤ o ∧ γ.mu o = some j ∧ i = { j with ver := 0 } := by
      intro k i hk hi
      simp only [srcH, if_neg (Nat.not_lt.2 hk)] at hi
      split at hi
      · injection hi with hi; subst hi; exact .inl rfl
      · rename_i o ho
        have hm := List.mem_of_getElem? ho
        obtain ⟨u, _, hu⟩ := srcOs_mem hm
        obtain ⟨⟨_, _, _, _, hmo, _⟩, _⟩ := srcO_mem hu
        cases hj : γ.mu o with
        | none => simp [hj] at hi
        | some j => simp only [hj, Option.map_some, Option.some.injEq] at hi; exact .inr ⟨o, j, ho, hm, hmo, hj, hi.symm⟩
      · cases hi
    have low : ∀ k i, k < m → srcH γ m L k = some i → γ.mu k = some i := fun k i hk hi => by simpa only [srcH, if_pos hk] using hi
    have nfz : ∀ o j b, γ.mu o = some j → j.blk = some b → (o < m ∨ some o ∈ L) → (∀ x, getO ob o = some x → x.fro = false) → ¬ γ'.im b := by
      intro o j b hj hb ho hf him
      obtain ⟨x, hx⟩ := S.dom o j hj
      rcases him with him | ⟨p, j', hp, hpn, hj', hb'⟩
      · exact S.unf o x j b hx (hf x hx) hj hb him
      · have := S.inj o p j j' b hj hj' hb hb'
        subst this
        rcases ho with ho | ho
        · omega
        · exact hpn ho
    have len : (qs ++ os).length = m + os.length := by simp [q1]
    refine ⟨γ', ?_⟩
    constructor
    · 
      rcases ws with _ | ⟨v, _ | ⟨v2, ws⟩⟩
      · have h0 : xs.length = 0 := by simp at g1; omega
        simp only [one]
        rw [dif_neg (by omega)]
        exact RV_tup.2 ⟨_, rfl, by simp [h0], g3⟩
      · have h0 : xs.length = 1 := by simp at g1; omega
        simp only [one]
        rw [dif_pos h0]
        simp only [RL] at g3
        obtain ⟨⟨x, hx, hv⟩, _⟩ := g3
        have : xs[0]'(by omega) = x := by
          have h := List.getElem?_eq_getElem (l := xs) (i := 0) (by omega)
          have h2 : xs[0]? = some x := by simpa using hx
          rw [h] at h2; injection h2
        rw [this]; exact hv
      · simp only [one]
        rw [dif_neg (by simp at g1; omega)]
        exact RV_tup.2 ⟨_, rfl, by simp at g1 ⊢; omega, g3⟩
    · omega
    · intro k x hx
      by_cases hk : k < m
      · rw [List.getElem?_append_left (by omega)] at hx
        obtain ⟨a1, a2⟩ := q2 k x hx
        rw [Nat.zero_add] at a1 a2
        obtain ⟨i, y, b1, b2, b3, b4⟩ := outX_ok S F a1 (fun o ho hin => by
          have hin := (hh o).1 hin
          have c1 := cnt o hin
          rw [← hall, cntN_app] at c1
          have := cntN_pos (srcOs_refs hin)
          have := cntN_pos (a2 o ho)
          omega)
        exact ⟨i, F.mu k i hk b1, b4⟩
      · rw [List.getElem?_append_right (by omega)] at hx
        obtain ⟨_, i, a1, a2⟩ := g4 _ x hx
        refine ⟨i, ?_, a2⟩
        rw [← a1]; congr 1; simp [srcOs]; omega
    · intro k i hi
      rw [len]
      by_cases hk : k < m
      · omega
      · have : (L[k - m]?) ≠ none := by
          intro e
          simp only [γ', srcH, if_neg hk, e] at hi; cases hi
        have := (not_congr List.getElem?_eq_none_iff).1 this
        have e : L.length = os.length := by rw [g2]
        omega
    · intro k k' i i' b hi hi' hb hb'
      by_cases hk : k < m
      · have e1 := low k i hk hi
        by_cases hk' : k' < m
        · exact S.inj k k' i i' b e1 (low k' i' hk' hi') hb hb'
        · rcases src k' i' (by omega) hi' with h | ⟨o, j, _, _, ho, hj, rfl⟩
          · rw [h] at hb'; cases hb'
          · have := S.inj k o i j b e1 hj hb hb'; omega
      · rcases src k i (by omega) hi with h | ⟨o, j, hL1, hL0, ho, hj, rfl⟩
        · rw [h] at hb; cases hb
        · by_cases hk' : k' < m
          · have := S.inj k' o i' j b (low k' i' hk' hi') hj hb' hb; omega
          · rcases src k' i' (by omega) hi' with h | ⟨o2, j2, hL2, _, ho2, hj2, rfl⟩
            · rw [h] at hb'; cases hb'
            · have := S.inj o o2 j j2 b hj hj2 hb hb'
              subst this
              have c1 := cnt o hL0
              rw [← hall, cntN_app] at c1
              have := srcOs_inj (m := m) (ob := ob) (all := all) (l := vs) (o := o) (by omega) _ _ hL1 hL2
              omega
    · intro k x i b hx hf hi hb
      by_cases hk : k < m
      · rw [List.getElem?_append_left (by omega)] at hx
        obtain ⟨a1, a2⟩ := q2 k x hx
        rw [Nat.zero_add] at a1 a2
        obtain ⟨i', y, b1, b2, b3, b4⟩ := outX_ok S F a1 (fun o ho hin => by
          have hin := (hh o).1 hin
          have c1 := cnt o hin
          rw [← hall, cntN_app] at c1
          have := cntN_pos (srcOs_refs hin)
          have := cntN_pos (a2 o ho)
          omega)
        exact nfz k i b (low k i hk hi) hb (.inl hk) (fun x' hx' => by rw [b2] at hx'; injection hx' with hx'; subst hx'; rw [← b3]; exact hf)
      · rcases src k i (by omega) hi with h | ⟨o, j, hL1, hL0, ho, hj, rfl⟩
        · rw [h] at hb; cases hb
        · refine nfz o j b hj hb (.inr hL0) (fun x' hx' => ?_)
          obtain ⟨u, _, hu⟩ := srcOs_mem hL0
          obtain ⟨⟨_, _, _, _, _, hhd⟩, _⟩ := srcO_mem hu
          rw [hx'] at hhd
          simp only [handX, Bool.and_eq_true, Bool.not_eq_true'] at hhd
          exact hhd.1.1.1.1.2
    · intro k i b hi hb
      by_cases hk : k < m
      · exact S.own k i b (low k i hk hi) hb
      · rcases src k i (by omega) hi with h | ⟨o, j, _, _, ho, hj, rfl⟩
        · rw [h] at hb; cases hb
        · exact S.own o j b hj hb
    · intro b hb
      rcases hb with hb | ⟨o, j, _, _, hj, hjb⟩
      · exact S.lt b hb
      · exact blk_lt S hj hjb
    · exact S.chg
    · exact S.gn
    · intro k i hk hi
      obtain ⟨i', h3, h4⟩ := S.kept k i (hkp k hk) hi
      exact ⟨i', F.mu k i' hk h3, h4⟩
    · intro b hb
      obtain ⟨h3, h4⟩ := S.imk b hb
      exact ⟨.inl h3, h4⟩
    · intro b hb
      rcases hb with hb | ⟨o, j, _, _, hj, hjb⟩
      · exact S.imn b hb
      · exact .inr (S.own o j b hj hjb)
    · intro k i b hi hb
      by_cases hk : k < m
      · rcases S.place k i b (low k i hk hi) hb with ⟨_, h⟩ | h
        · exact .inl ⟨hk, h⟩
        · exact .inr h
      · rcases src k i (by omega) hi with h | ⟨o, j, _, _, ho, hj, rfl⟩
        · rw [h] at hb; cases hb
        · rcases S.place o j b hj hb with ⟨_, j', hj', _⟩ | h
          · have := hm0 o j' hj'; omega
          · exact .inr h
  · cases H
end
def Tabled (P : Program) (fid : Nat → Nat) (glob : Nat → Option (List PV)) (T : Nat → Option Body) : Prop :=
  ∀ f0 m, T (fid f0) = some m → ∃ (fn : Func) (E : Env), P.funcs[f0]? = some fn ∧ (fn.name == "runtime.NumGoroutine") = false ∧ m = denF P E fn ∧ E.fid = fid ∧ E.glob = glob ∧ True ∧ E.rov = false
theorem zip_slots {C : Ctx} {γ : Gh} {w : World} {args : Array Value} {as : List PV} (hs : args.size = as.length) (n : Nat) (h : ∀ t, RV C.fid γ w.heap (args.getD t undef) (getS (zipN 0 as) t)) (t : Nat) : RV C.fid γ w.heap ((args ++ Array.replicate (n - args.size) undef).getD t undef) (getS (zipN 0 as) t) := by
  have := h t
  by_cases ht : t < args.size
  · have e : (args ++ Array.replicate (n - args.size) undef).getD t undef = args.getD t undef := by
      simp only [Array.getD_eq_getD_getElem?]
      rw [Array.getElem?_append_left ht]
    rw [e]; exact this
  · rw [getS_zip, if_pos (Nat.zero_le _), Nat.sub_zero]
    have : as.getD t .un = .un := by simp [List.getElem?_eq_none (show as.length ≤ t by omega)]
    rw [this]; exact RV_un
theorem yOut_some {x : Option R} {r : PV} {out : List Obj'} (h : yOut x = some (r, out)) : out = [] ∧ ∃ o, x = some (r, o) := by
  unfold yOut at h
  split at h
  · rename_i y
    injection h with h
    obtain ⟨y1, y2⟩ := y
    simp only [Prod.mk.injEq] at h
    obtain ⟨rfl, rfl⟩ := h
    exact ⟨rfl, y2, rfl⟩
  · cases h
section
variable {P : Program} {fid : Nat → Nat} {glob : Nat → Option (List PV)}
theorem body_ok {E : Env} {C : Ctx} {Φ : Sem'} (hE : E.fid = C.fid) (hG : E.glob = C.glob) (hro : True) (hrov : E.rov = false) (hyp : E.yp = false) (hΦ : Sound P C.fid C.glob Φ) (hΦI : SoundI P C.fid C.glob Φ) {f0 : FuncId} {fn : Func} {c : Code} (h1 : P.funcs[f0]? = some fn) (hb : fn.body = some c)
    {args : Array Value} {as : List PV} {os : List Obj'} (hs : args.size = as.length) (hkp : ∀ k, C.kp k ↔ k < 64) (S : St C C.g0 C.w0 args (zipN 0 as) (zipN 0 os)) {N : Nat} {K : Kont} {r : R} (H : den P E Φ N fn.ntmps c none K (zipN 0 as) (zipN 0 os) = some r) {R' : Ending → World → Prop} {n : Nat}
    (hQ : ∀ o sl ob γ (a : Act) w, K o sl ob = some r → St C γ w a.tmps sl ob → (o = .norm ∨ o = .ret) ∧ ∃ v, (results fn a.tmps).run P w = .ok v w ∧ R' (.returned v) w) : CallsIn Fence.wide n P f0 args C.w0 R' := by
  let a0 : Act := { tmps := args ++ Array.replicate (fn.ntmps - args.size) undef, defers := [] }
  have S0 : St C C.g0 C.w0 a0.tmps (zipN 0 as) (zipN 0 os) := S.slots (zip_slots hs _ S.slot)
  have hM : fn.ntmps ≤ a0.tmps.size := by simp [a0]; omega
  have hden := (den_sound (M := a0.tmps.size) hE hG hro hrov hΦ (N := N) hM (fun h => by rw [hyp] at h; cases h) (fun f ps as c ha hc => range_ok hE hG hΦI hM f ps as c ha hc) c n Fence.wide (.inl rfl) (TP C r) (TP_slot _ C r) (fun h => by rw [hyp] at h; cases h) (fun _ => ⟨rfl, TP_head C r, fun _ => TP_rg C r⟩)).1 K _ _ a0 C.g0 C.w0 r H rfl
    ⟨C, rfl, rfl, ⟨rfl, Ext.refl' S0, hkp, [], List.nodup_nil, rfl, fun D h => by cases h⟩, S0⟩
  refine callsIn_of_wp_marks h1 hb trivial (wpIn_mono hden ?_)
  rintro e a' w' ⟨_, o, sl', ob', γ', r', he, hK, C', hf, hg, ⟨hr, X, hkp', Ds, hn, hds, hD⟩, S'⟩
  subst hr; subst he
  have S1 := S'.unext X
  have key : o = .norm ∨ o = .ret := (hQ o sl' ob' γ' a' w' hK S1).1
  have fin : LeavesInM Fence.wide n P fn a'.tmps R' a'.defers .returning w' := by
    rw [hds]
    refine leave_ok (fun w Sw => (hQ o sl' ob' γ' a' w hK Sw).2) Ds w' hn (fun D h => ?_) S1
    obtain ⟨g1, g2, g3, g4, g5⟩ := hD D h
    refine ⟨g1, fun h => ?_, ?_, (S'.chg.block D g2 (fun h => ?_)).trans g5⟩
    · rcases S'.imn D h with h | h | h
      · exact g4 h
      · exact g3 h
      · omega
    · rintro ⟨o, i, k1, k2⟩
      rcases S'.own o i D k1 k2 with h | h
      · exact g3 h
      · omega
    · rcases h with h | h
      · exact g3 h
      · omega
  rcases key with rfl | rfl
  · exact fin
  · exact fin
theorem sem_sound {T : Nat → Option Body} (hT : Tabled P fid glob T) (N : Nat) : ∀ d, Sound P fid glob (sem T N d) ∧ SoundI P fid glob (sem T N d) := by
  intro d
  induction d with
  | zero =>
    refine ⟨?_, ?_⟩
    · intro f0 as os r out H; simp [sem] at H
    · intro f0 as os g xs H; simp [sem] at H
  | succ d ih =>
    have common : ∀ (f0 : FuncId) (as : List PV) (os : List Obj') (r : PV) (out : List Obj'), sem T N (d + 1) (fid f0) as os = some (r, out) → ∃ (fn : Func) (E : Env) (c : Code), P.funcs[f0]? = some fn ∧ fn.body = some c ∧ Bodied P f0 ∧ E.fid = fid ∧ E.glob = glob ∧ True ∧ E.rov = false ∧
        ((E.yp = true ∧ fn.results.isEmpty = true ∧ fn.ntmps ≤ tslot ∧ 2 ≤ os.length ∧ out = [] ∧ ∃ o, den P E (sem T N d) N fn.ntmps c none endY ((tslot, .y 1 0 0) :: zipN 0 as) (zipN 0 os) = some (r, o)) ∨
         (E.yp = false ∧ ∃ K : Kont, (K = endG P fn os.length ∨ K = endK P fn os.length) ∧ den P E (sem T N d) N fn.ntmps c none K (zipN 0 as) (zipN 0 os) = some (r, out))) := by
      intro f0 as os r out H
      simp only [sem] at H
      split at H
      · cases H
      · rename_i m hm
        obtain ⟨fn, E, h1, h2, rfl, h4, h5, h6, h7⟩ := hT f0 m hm
        unfold denF at H
        split at H
        · rename_i c hb
          refine ⟨fn, E, c, h1, hb, ⟨fn, h1, by rw [hb]; rfl, h2⟩, h4, h5, h6, h7, ?_⟩
          split at H
          · rename_i hyp
            split at H
            · rename_i hc1
              split at H
              · rename_i hc2
                split at H
                · rename_i hc3
                  obtain ⟨g1, g2⟩ := yOut_some H
                  exact .inl ⟨hyp, hc1, hc2, hc3, g1, g2⟩
                · cases H
              · cases H
            · cases H
          · rename_i hyp
            have hyp : E.yp = false := by simpa using hyp
            split at H
            · exact .inr ⟨hyp, _, .inl rfl, H⟩
            · exact .inr ⟨hyp, _, .inr rfl, H⟩
        · cases H
    have ends : ∀ {E : Env} {C : Ctx} {fn : Func} {m : Nat} {K : Kont} {r : PV} {out : List Obj'} {o : Out} {sl : SL} {ob : OB} {γ : Gh} {a : Act} {w : World}, E.fid = C.fid → E.glob = C.glob → (K = endG P fn m ∨ K = endK P fn m) → K o sl ob = some (r, out) → St C γ w a.tmps sl ob → m ≤ 64 → (∀ k, C.kp k ↔ k < 64) → (∀ k i, C.g0.mu k = some i → k < m) →
        (o = .norm ∨ o = .ret) ∧ m ≤ out.length ∧ ∃ v, (results fn a.tmps).run P w = .ok v w ∧ ∃ γ', Ret C γ' w v r m out := by
      intro E C fn m K r out o sl ob γ a w hE hG hK H S hm hkp hm0
      have res : ∀ (xs : List Value), (fn.results.toList.mapM (rdR a.tmps)).run P w = .ok xs w → (results fn a.tmps).run P w = .ok (if h : xs.length = 1 then xs[0]'(by omega) else .tuple xs.toArray) w := by
        intro xs g5
        rw [results_eq, Array.mapM_eq_mapM_toList]
        simp only [Sem.run_bind, Sem.run_map, g5, Result.andThen_ok, Sem.run_pure]
        congr 1
      have fin : ∀ kk : List PV → Option R, resK P sl ob fn.results.toList kk = some (r, out) → (∀ (vs : List PV) (xs : List Value), kk vs = some (r, out) → RL C.fid γ w.heap xs.toArray 0 vs → xs.length = vs.length → ∃ γ', Ret C γ' w (if h : xs.length = 1 then xs[0]'(by omega) else .tuple xs.toArray) r m out) →
          m ≤ out.length ∧ ∃ v, (results fn a.tmps).run P w = .ok v w ∧ ∃ γ', Ret C γ' w v r m out := by
        intro kk hk hf
        obtain ⟨vs, xs, g1, g2, g3, g4, g5⟩ := resK_ok hE hG S _ _ hk
        obtain ⟨γ2, hret⟩ := hf vs xs g1 g4 (by omega)
        exact ⟨hret.len, _, res xs g5, γ2, hret⟩
      have fk := fun vs (xs : List Value) (h : Go.Proofs.Ytnkapponcbgbhaa.fin ob m (fn.resultTypes.toList.map (elW P)) vs = some (r, out)) (hR : RL C.fid γ w.heap xs.toArray 0 vs) hl => fin_ok S hR hl (fun k hk => (hkp k).2 (by omega)) hm0 h
      have fg := fun vs (xs : List Value) (h : finG ob m vs = some (r, out)) (hR : RL C.fid γ w.heap xs.toArray 0 vs) hl => finG_ok S hR hl hm (fun k hk => (hkp k).2 (by omega)) hm0 h
      rcases hK with rfl | rfl <;> cases o
      · exact ⟨.inl rfl, fin _ H fg⟩
      · simp [endG] at H
      · simp [endG] at H
      · exact ⟨.inr rfl, fin _ H fg⟩
      · exact ⟨.inl rfl, fin _ H fk⟩
      · simp [endK] at H
      · simp [endK] at H
      · exact ⟨.inr rfl, fin _ H fk⟩
    constructor
    · intro f0 as os r out H hlo C args hf hg hs hos hkp S
      obtain ⟨fn, E, c, h1, hb, hbod, h4, h5, h6, h7, hh⟩ := common f0 as os r out H
      rcases hh with ⟨_, _, _, h8, h9, _⟩ | ⟨hyp, K, hK, hden⟩
      · rw [h9, List.length_nil] at hlo; omega
      · have hE : E.fid = C.fid := by rw [h4, hf]
        have hG : E.glob = C.glob := by rw [h5, hg]
        refine callsIn_wide.1 (body_ok (n := 0) hE hG h6 h7 hyp (by rw [hf, hg]; exact ih.1) (by rw [hf, hg]; exact ih.2) h1 hb hs hkp S hden ?_)
        intro o sl ob γ a w hKo Sw
        obtain ⟨g1, _, v, g2, γ', g3⟩ := ends hE hG hK hKo Sw hos hkp (fun k i hi => by
          obtain ⟨x, hx⟩ := S.dom k i hi
          rw [getO_zip, if_pos (Nat.zero_le _)] at hx
          have := (List.getElem?_eq_some_iff.1 hx).1; omega)
        exact ⟨g1, v, g2, v, γ', rfl, g3, hbod⟩
    · intro f0 as os g xs H h2 C args hf hg hs hos hkp S l nn Z CH PR hmu0 hmu1 hPR hCH hIM hJ
      obtain ⟨fn, E, c, h1, hb, hbod, h4, h5, h6, h7, hh⟩ := common f0 as os _ _ H
      have hE : E.fid = C.fid := by rw [h4, hf]
      have hG : E.glob = C.glob := by rw [h5, hg]
      refine ⟨?_, hbod⟩
      have S00 : St C C.g0 C.w0 (args ++ Array.replicate (fn.ntmps - args.size) undef) ((tslot, .y 1 0 0) :: zipN 0 as) (zipN 0 os) := (S.slots (zip_slots hs _ S.slot)).tsl fun x => by
        simp only [RV, RAt]
        exact ⟨_, hmu1, Nat.le_refl _, fun _ => rfl⟩
      rcases hh with ⟨hyp, hres, hts, _, _, o, hden⟩ | ⟨hyp, K, hK, hden⟩
      · subst hf
        have hM : fn.ntmps ≤ (args ++ Array.replicate (fn.ntmps - args.size) undef).size := by simp; omega
        have hrun := (den_sound (M := (args ++ Array.replicate (fn.ntmps - args.size) undef).size) hE hG h6 h7 (Φ := sem T N d) (by rw [hg]; exact ih.1) (N := N) hM (fun _ => hts) (fun f ps as c ha hc => range_ok hE hG (by rw [hg]; exact ih.2) hM f ps as c ha hc) c (nn + 1) Fence.wide (.inl rfl) (TI Z) (TI_slot Z hyp) (fun _ => ⟨TI_go Z, TI_y (nn := nn + 1) hE hG Z⟩) (fun _ => ⟨rfl, TI_head Z, fun h => by rw [hyp] at h; cases h⟩)).1 endY _ _ { tmps := args ++ Array.replicate (fn.ntmps - args.size) undef, defers := [] } C.g0 C.w0 _ hden rfl
          ⟨C, rfl, rfl, ⟨rfl, hkp, hmu0, _, hmu1, ⟨rfl, rfl⟩, (fun n m e => by simp only [getS_cons, if_true] at e; injection e with _ e _; exact e.symm), CH, PR, hPR, hCH, hIM, .inl ⟨rfl, [], xs, g, o, hJ, rfl, rfl⟩⟩, S00⟩
        refine callsIn_of_wp h1 hb trivial (wpIn_mono hrun ?_)
        rintro e a' w' ⟨_, oo, sl', ob', γ', r', he, hK, C', hf', hg', ⟨t1, t2, t3, i0, t4, t5, t6, CH', PR', t7, t8, t9, t10⟩, S'⟩
        subst he
        have hres0 : (results fn a'.tmps).run P w' = .ok (.tuple #[]) w' := by
          have : fn.results = #[] := by simpa using hres
          rw [results_eq, this]
          simp
        have hc : Chg (fun b => ¬ PR' b) C'.w0 w' := ⟨S'.chg.os, S'.chg.tape, S'.chg.output, S'.chg.size, fun k hk hA => S'.chg.block k hk (fun h => by
          have hp : PR' k := Classical.byContradiction hA
          rcases h with h | h
          · exact (t7 k hp).2 h
          · omega)⟩
        have fin : r' = (.tup [.un, .l false []], []) → a'.defers = [] ∧ ∃ v, (results fn a'.tmps).run P w' = .ok v w' ∧ (∃ v', Ending.returned v = .returned v') ∧ ((∃ CH PR, Z.J xs CH PR w') ∨ ∃ CH PR, Z.Jx CH PR w') := by
          intro hr
          refine ⟨t1, _, hres0, ⟨_, rfl⟩, ?_⟩
          rcases t10 with ⟨_, pre, rest, g', out', k1, k2, k3⟩ | ⟨_, k1⟩
          · rw [hr] at k2
            simp only [Prod.mk.injEq, PV.tup.injEq, List.cons.injEq, PV.l.injEq, true_and, and_true] at k2
            obtain ⟨⟨_, rfl⟩, _⟩ := k2
            rw [List.append_nil] at k3
            subst k3
            exact .inl ⟨_, _, Z.stab _ _ _ _ _ k1 hc⟩
          · exact .inr ⟨_, _, Z.stabx _ _ _ _ k1 hc⟩
        cases oo with
        | norm => exact fin (by simp only [endY, Option.some.injEq] at hK; exact hK.symm)
        | ret => exact fin (by simp only [endY, Option.some.injEq] at hK; exact hK.symm)
        | exit id => simp [endY] at hK
        | goto l => simp [endY] at hK
      · skip
        refine body_ok hE hG h6 h7 hyp (by rw [hf, hg]; exact ih.1) (by rw [hf, hg]; exact ih.2) h1 hb hs hkp S hden ?_
        intro o sl ob γ a w hKo Sw
        obtain ⟨_, g1, _⟩ := ends hE hG hK hKo Sw hos hkp (fun k i hi => by
          obtain ⟨x, hx⟩ := S.dom k i hi
          rw [getO_zip, if_pos (Nat.zero_le _)] at hx
          have := (List.getElem?_eq_some_iff.1 hx).1; omega)
        rw [List.length_nil] at g1; omega
end
end Go.Proofs.Ytnkapponcbgbhaa
