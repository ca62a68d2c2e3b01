/-
  What functions answer.
-/
import Derived.Test.YtcimkkcajkmfoaaDoorFinA
set_option linter.all false
namespace Go.Proofs.YtcimkkcajkmfoaaDoor
open Go

/-- A result, read. -/
def rdR (tmps : Array Value) : ResultVar → Sem Value
  | .tmp t => pure (tmps.getD t undef)
  | .cell p t => do loadVar t (← asAddr (tmps.getD p undef))
theorem results_eq (fn : Func) (tmps : Array Value) : results fn tmps = (do let vs ← fn.results.mapM (rdR tmps); pure (if h : vs.size = 1 then vs[0] else .tuple vs)) := by
  unfold results
  congr 1
section
variable {P : Program} {E : Env} {C : Ctx}
/-- The results are read. -/
theorem resK_ok (hE : E.fid = C.fid) (hG : E.glob = C.glob) {γ : Gh} {w : World} {a : Act} {sl : SL} {ob : OB} (S : St C γ w a.tmps sl ob) {r : R} : ∀ (rs : List ResultVar) (k : List PV → Option R), resK P sl ob rs k = some r →
    ∃ vs xs, k vs = some r ∧ vs.length = rs.length ∧ xs.length = rs.length ∧ RL C.fid γ w.heap xs.toArray 0 vs ∧
      (rs.mapM (rdR a.tmps)).run P w = .ok xs w := by
  intro rs
  induction rs with
  | nil => intro k H; exact ⟨[], [], H, rfl, rfl, by simp only [RL], by simp⟩
  | cons rv rs ih =>
    intro k H
    have step : ∀ (x : Value) (v : PV) (g : ResultVar → Sem Value), (g rv).run P w = .ok x w → RV C.fid γ w.heap x v → (∃ vs xs, k (v :: vs) = some r ∧ vs.length = rs.length ∧ xs.length = rs.length ∧ RL C.fid γ w.heap xs.toArray 0 vs ∧ (rs.mapM g).run P w = .ok xs w) →
        ∃ vs xs, k vs = some r ∧ vs.length = (rv :: rs).length ∧ xs.length = (rv :: rs).length ∧ RL C.fid γ w.heap xs.toArray 0 vs ∧ ((rv :: rs).mapM g).run P w = .ok xs w := by
      rintro x v g hx hv ⟨vs, xs, h1, h2, h3, h4, h5⟩
      refine ⟨v :: vs, x :: xs, h1, by simp [h2], by simp [h3], ?_, ?_⟩
      · simp only [RL]
        refine ⟨⟨x, by simp, hv⟩, RL_at (fun i y hi hy => ?_) h4⟩
        rw [Nat.zero_add] at hy
        simpa [Nat.add_comm] using hy
      · simp only [List.mapM_cons, Sem.run_bind, hx, Result.andThen_ok, h5, Sem.run_pure]
    cases rv with
    | tmp t =>
      simp only [resK] at H
      refine step (a.tmps.getD t undef) (getS sl t) _ rfl (S.slot t) ?_
      exact ih (fun l => k (getS sl t :: l)) H
    | cell p ty =>
      simp only [resK] at H
      have hk : known P ty = true := by
        by_cases hk : known P ty = true
        · exact hk
        · rw [if_neg hk] at H; cases H
      rw [if_pos hk] at H
      obtain ⟨v, hv, H⟩ := bnd_some H
      have hres : ∃ y, (do loadVar ty (← asAddr (a.tmps.getD p undef)) : Sem Value).run P w = .ok y w ∧ RV C.fid γ w.heap y v := by
        have hl : ∃ y, (Instr.loadAt ty (a.tmps.getD p undef)).run P w = .ok y w ∧ RV C.fid γ w.heap y v := by
          cases ha : aggT P ty with
          | true => rw [ha] at hv; exact lN_ok S (S.slot p) hk ha hv
          | false => rw [ha] at hv; exact l1_ok S (S.slot p) hk ha hv
        obtain ⟨y, hy, hyv⟩ := hl
        refine ⟨y, ?_, hyv⟩
        unfold Instr.loadAt Instr.sureAddr at hy
        cases hp : a.tmps.getD p undef with
        | pointer ad =>
          cases ad with
          | none => rw [hp] at hy; simp at hy
          | some ad => rw [hp] at hy; simpa [asAddr] using hy
        | _ => rw [hp] at hy; simp at hy
      obtain ⟨y, hy, hyv⟩ := hres
      refine step y v _ hy hyv ?_
      exact ih (fun l => k (v :: l)) H
theorem fin_ok {γ : Gh} {w : World} {act : Act} {sl : SL} {ob : OB} (S : St C γ w act.tmps sl ob) {m : Nat} {rw : List Nat} {vs : List PV} {xs : List Value} (hR : RL C.fid γ w.heap xs.toArray 0 vs) (hl : xs.length = vs.length) {r : PV} {out : List Obj'} (hm : m ≤ 64) (hm0 : ∀ k i, C.g0.mu k = some i → k < m)
    (H : fin ob m rw vs = some (r, out)) : ∃ γ', Ret C γ' w (if h : xs.length = 1 then xs[0]'(by omega) else .tuple xs.toArray) r m out := by
  unfold fin at H
  split at H
  · rename_i ws os qs h1 h2
    simp only [Option.some.injEq, Prod.mk.injEq] at H
    obtain ⟨rfl, rfl⟩ := H
    generalize hall : refsL vs ++ refsOuts ob 0 m = all at h1
    let L := srcOs m ob all vs
    let γ' : Gh := { mu := srcH γ m L, im := fun b => γ.im b ∨ ∃ o j, m ≤ o ∧ some o ∉ L ∧ γ.mu o = some j ∧ j.blk = some b, gn := γ.gn }
    have hh : ∀ o, o ∈ L.filterMap id ↔ some o ∈ L := fun o => by simp
    have hgn : ∀ o i b, γ.mu o = some i → i.blk = some b → γ.gn b := fun o i b hi hb => by rw [S.gn]; exact S.gnew b (S.own o i b hi hb)
    have F : FinG γ γ' m (L.filterMap id) := by
      refine ⟨fun o i ho hi => ?_, fun g b h => ⟨.inl h.1, h.2⟩, fun o i b ho hn hi hb g => ⟨.inr ⟨o, i, ho, fun h => hn ((hh o).2 h), hi, hb⟩, fun _ => hgn o i b hi hb⟩⟩
      simp only [γ', srcH, if_pos ho]; exact hi
    obtain ⟨g1, g2, g3, g4⟩ := resOs_ok S (rest := refsOuts ob 0 m) (L := L) F (fun k => rfl) vs [] rw ws os xs.toArray 0 (by simpa [srcOs] using h1) (by simpa using hall.symm) rfl hh hR
    obtain ⟨q1, q2⟩ := outOs_ok m 0 qs h2
    have cnt : ∀ o, some o ∈ L → cntN o all = 1 := fun o ho => by
      obtain ⟨u, _, hu⟩ := srcOs_mem ho; exact (srcO_mem hu).2.2.2
    have src : ∀ k i, m ≤ k → srcH γ m L k = some i → (i.blk = none) ∨ ∃ o j, L[k - m]? = some (some o) ∧ some o ∈ L ∧ m ≤ o ∧ γ.mu o = some j ∧ i = { j with ver := 0 } := by
      intro k i hk hi
      simp only [srcH, if_neg (Nat.not_lt.2 hk)] at hi
      split at hi
      · injection hi with hi; subst hi; exact .inl rfl
      · rename_i o ho
        have hm := List.mem_of_getElem? ho
        obtain ⟨u, _, hu⟩ := srcOs_mem hm
        obtain ⟨⟨_, _, _, _, hmo, _⟩, _⟩ := srcO_mem hu
        cases hj : γ.mu o with
        | none => simp [hj] at hi
        | some j => simp only [hj, Option.map_some, Option.some.injEq] at hi; exact .inr ⟨o, j, ho, hm, hmo, hj, hi.symm⟩
      · cases hi
    have low : ∀ k i, k < m → srcH γ m L k = some i → γ.mu k = some i := fun k i hk hi => by simpa only [srcH, if_pos hk] using hi
    have nfz : ∀ o j b, γ.mu o = some j → j.blk = some b → (o < m ∨ some o ∈ L) → (∀ x, getO ob o = some x → x.fro = false) → ¬ γ'.im b := by
      intro o j b hj hb ho hf him
      obtain ⟨x, hx⟩ := S.dom o j hj
      rcases him with him | ⟨p, j', hp, hpn, hj', hb'⟩
      · exact S.unf o x j b hx (hf x hx) hj hb him
      · have := S.inj o p j j' b hj hj' hb hb'
        subst this
        rcases ho with ho | ho
        · omega
        · exact hpn ho
    have len : (qs ++ os).length = m + os.length := by simp [q1]
    refine ⟨γ', ?_⟩
    constructor
    · -- the value
      rcases ws with _ | ⟨v, _ | ⟨v2, ws⟩⟩
      · have h0 : xs.length = 0 := by simp at g1; omega
        simp only [one]
        rw [dif_neg (by omega)]
        exact RV_tup.2 ⟨_, rfl, by simp [h0], g3⟩
      · have h0 : xs.length = 1 := by simp at g1; omega
        simp only [one]
        rw [dif_pos h0]
        simp only [RL] at g3
        obtain ⟨⟨x, hx, hv⟩, _⟩ := g3
        have : xs[0]'(by omega) = x := by
          have h := List.getElem?_eq_getElem (l := xs) (i := 0) (by omega)
          have h2 : xs[0]? = some x := by simpa using hx
          rw [h] at h2; injection h2
        rw [this]; exact hv
      · simp only [one]
        rw [dif_neg (by simp at g1; omega)]
        exact RV_tup.2 ⟨_, rfl, by simp at g1 ⊢; omega, g3⟩
    · omega
    · intro k x hx
      by_cases hk : k < m
      · rw [List.getElem?_append_left (by omega)] at hx
        obtain ⟨a1, a2⟩ := q2 k x hx
        rw [Nat.zero_add] at a1 a2
        obtain ⟨i, y, b1, b2, b3, b4⟩ := outX_ok S F a1 (fun o ho hin => by
          have hin := (hh o).1 hin
          have c1 := cnt o hin
          rw [← hall, cntN_app] at c1
          have := cntN_pos (srcOs_refs hin)
          have := cntN_pos (a2 o ho)
          omega)
        exact ⟨i, F.mu k i hk b1, b4⟩
      · rw [List.getElem?_append_right (by omega)] at hx
        obtain ⟨_, i, a1, a2⟩ := g4 _ x hx
        refine ⟨i, ?_, a2⟩
        rw [← a1]; congr 1; simp [srcOs]; omega
    · intro k i hi
      rw [len]
      by_cases hk : k < m
      · omega
      · have : (L[k - m]?) ≠ none := by
          intro e
          simp only [γ', srcH, if_neg hk, e] at hi; cases hi
        have := (not_congr List.getElem?_eq_none_iff).1 this
        have e : L.length = os.length := by rw [g2]
        omega
    · intro k k' i i' b hi hi' hb hb'
      by_cases hk : k < m
      · have e1 := low k i hk hi
        by_cases hk' : k' < m
        · exact S.inj k k' i i' b e1 (low k' i' hk' hi') hb hb'
        · rcases src k' i' (by omega) hi' with h | ⟨o, j, _, _, ho, hj, rfl⟩
          · rw [h] at hb'; cases hb'
          · have := S.inj k o i j b e1 hj hb hb'; omega
      · rcases src k i (by omega) hi with h | ⟨o, j, hL1, hL0, ho, hj, rfl⟩
        · rw [h] at hb; cases hb
        · by_cases hk' : k' < m
          · have := S.inj k' o i' j b (low k' i' hk' hi') hj hb' hb; omega
          · rcases src k' i' (by omega) hi' with h | ⟨o2, j2, hL2, _, ho2, hj2, rfl⟩
            · rw [h] at hb'; cases hb'
            · have := S.inj o o2 j j2 b hj hj2 hb hb'
              subst this
              have c1 := cnt o hL0
              rw [← hall, cntN_app] at c1
              have := srcOs_inj (m := m) (ob := ob) (all := all) (l := vs) (o := o) (by omega) _ _ hL1 hL2
              omega
    · intro k x i b hx hf hi hb
      by_cases hk : k < m
      · rw [List.getElem?_append_left (by omega)] at hx
        obtain ⟨a1, a2⟩ := q2 k x hx
        rw [Nat.zero_add] at a1 a2
        obtain ⟨i', y, b1, b2, b3, b4⟩ := outX_ok S F a1 (fun o ho hin => by
          have hin := (hh o).1 hin
          have c1 := cnt o hin
          rw [← hall, cntN_app] at c1
          have := cntN_pos (srcOs_refs hin)
          have := cntN_pos (a2 o ho)
          omega)
        exact nfz k i b (low k i hk hi) hb (.inl hk) (fun x' hx' => by rw [b2] at hx'; injection hx' with hx'; subst hx'; rw [← b3]; exact hf)
      · rcases src k i (by omega) hi with h | ⟨o, j, hL1, hL0, ho, hj, rfl⟩
        · rw [h] at hb; cases hb
        · refine nfz o j b hj hb (.inr hL0) (fun x' hx' => ?_)
          obtain ⟨u, _, hu⟩ := srcOs_mem hL0
          obtain ⟨⟨_, _, _, _, _, hhd⟩, _⟩ := srcO_mem hu
          rw [hx'] at hhd
          simp only [handX, Bool.and_eq_true, Bool.not_eq_true'] at hhd
          exact hhd.1.1.1.1.2
    · intro k i b hi hb
      by_cases hk : k < m
      · exact S.own k i b (low k i hk hi) hb
      · rcases src k i (by omega) hi with h | ⟨o, j, _, _, ho, hj, rfl⟩
        · rw [h] at hb; cases hb
        · exact S.own o j b hj hb
    · intro b hb
      rcases hb with hb | ⟨o, j, _, _, hj, hjb⟩
      · exact S.lt b hb
      · exact blk_lt S hj hjb
    · exact S.chg
    · exact S.gn
    · intro k i hk hi
      obtain ⟨i', h3, h4⟩ := S.kept k i (by omega) hi
      exact ⟨i', F.mu k i' hk h3, h4⟩
    · intro b hb
      obtain ⟨h3, h4⟩ := S.imk b hb
      exact ⟨.inl h3, h4⟩
    · intro b hb
      rcases hb with hb | ⟨o, j, _, _, hj, hjb⟩
      · exact S.imn b hb
      · exact .inr (S.own o j b hj hjb)
    · intro k i b hi hb
      by_cases hk : k < m
      · rcases S.place k i b (low k i hk hi) hb with ⟨_, h⟩ | h
        · exact .inl ⟨hk, h⟩
        · exact .inr h
      · rcases src k i (by omega) hi with h | ⟨o, j, _, _, ho, hj, rfl⟩
        · rw [h] at hb; cases hb
        · rcases S.place o j b hj hb with ⟨_, j', hj', _⟩ | h
          · have := hm0 o j' hj'; omega
          · exact .inr h
  · cases H
end
/-- A table of functions, of a program's. -/
def Tabled (P : Program) (fid : Nat → Nat) (glob : Nat → Option (List PV)) (T : Nat → Option Body) : Prop :=
  ∀ f0 m, T (fid f0) = some m → ∃ (fn : Func) (E : Env), P.funcs[f0]? = some fn ∧ (fn.name == "runtime.NumGoroutine") = false ∧ m = denF P E fn ∧ E.fid = fid ∧ E.glob = glob ∧ (∀ f, E.ro f = false) ∧ E.rov = false
theorem sem_sound {P : Program} {fid : Nat → Nat} {glob : Nat → Option (List PV)} {T : Nat → Option Body} (hT : Tabled P fid glob T) (N : Nat) : ∀ d, Sound P fid glob (sem T N d) := by
  intro d
  induction d with
  | zero => intro f0 as os r out H; simp [sem] at H
  | succ d ih =>
    intro f0 as os r out H C args hf hg hs hos S
    simp only [sem] at H
    split at H
    · cases H
    · rename_i m hm
      obtain ⟨fn, E, h1, h2, rfl, h4, h5, h6, h7⟩ := hT f0 m hm
      unfold denF at H
      split at H
      · rename_i c hb
        have hE : E.fid = C.fid := by rw [h4, hf]
        have hG : E.glob = C.glob := by rw [h5, hg]
        have hΦ : Sound P C.fid C.glob (sem T N d) := by rw [hf, hg]; exact ih
        let a0 : Act := { tmps := args ++ Array.replicate (fn.ntmps - args.size) undef, defers := [] }
        have S0 : St C C.g0 C.w0 a0.tmps (zipN 0 as) (zipN 0 os) := by
          refine { S with slot := fun t => ?_ }
          have := S.slot t
          by_cases ht : t < args.size
          · have e : a0.tmps.getD t undef = args.getD t undef := by
              simp only [a0, Array.getD_eq_getD_getElem?]
              rw [Array.getElem?_append_left ht]
            rw [e]; exact this
          · rw [getS_zip, if_pos (Nat.zero_le _), Nat.sub_zero]
            have : as.getD t .un = .un := by simp [List.getElem?_eq_none (show as.length ≤ t by omega)]
            rw [this]; exact RV_un
        have hden := (den_sound (M := a0.tmps.size) (nn := 0) hE hG h6 h7 hΦ (by simp [a0]; omega) c).1 _ _ _ a0 C.g0 C.w0 H rfl rfl S0
        refine callsIn_wide.1 (callsIn_of_wp (n := 0) (F := Fence.wide) h1 hb trivial (wpIn_mono hden ?_))
        rintro e a' w' ⟨q1, q2, o, sl', ob', γ', he, hK, S'⟩
        have fin : resK P sl' ob' fn.results.toList (fin ob' os.length (fn.resultTypes.toList.map (elW P))) = some (r, out) → a'.defers = [] ∧ ∃ v, (results fn a'.tmps).run P w' = .ok v w' ∧ ∃ v' γ'', Ending.returned v = .returned v' ∧ Ret C γ'' w' v' r os.length out ∧ Bodied P f0 := by
          intro hK
          obtain ⟨vs, xs, g1, g2, g3, g4, g5⟩ := resK_ok hE hG S' _ _ hK
          obtain ⟨γ2, hret⟩ := fin_ok S' g4 (by omega) hos (fun k i hi => by
            obtain ⟨x, hx⟩ := S.dom k i hi
            rw [getO_zip, if_pos (Nat.zero_le _)] at hx
            have := (List.getElem?_eq_some_iff.1 hx).1; omega) g1
          refine ⟨q2, _, ?_, _, γ2, rfl, hret, fn, h1, by rw [hb]; rfl, h2⟩
          rw [results_eq, Array.mapM_eq_mapM_toList]
          simp only [Sem.run_bind, Sem.run_map, g5, Result.andThen_ok, Sem.run_pure]
          congr 1
        subst he
        cases o with
        | norm => exact fin hK
        | ret => exact fin hK
        | exit id => simp [endK] at hK
        | goto l => simp [endK] at hK
      · cases H
end Go.Proofs.YtcimkkcajkmfoaaDoor
