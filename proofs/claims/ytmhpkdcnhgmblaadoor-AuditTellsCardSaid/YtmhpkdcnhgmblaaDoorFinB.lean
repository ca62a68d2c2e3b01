import Derived.Test.YtmhpkdcnhgmblaaDoorRangeU
set_option linter.all false
namespace Go.Proofs.YtmhpkdcnhgmblaaDoor
open Go
section
variable {P : Program} {C : Ctx} {γ : Gh} {w : World} {tmps : Array Value} {sl : SL} {ob : OB}
theorem take_nth {ids : List Nat} {m k : Nat} (h : ids.take m = List.range m) (hk : k < m) : k < ids.length ∧ nth ids k = k := by
  have hl : (ids.take m).length = m := by rw [h]; simp
  have hm : m ≤ ids.length := by rw [List.length_take] at hl; omega
  have hk' : k < ids.length := by omega
  have h1 := nth_get ids k hk'
  have h2 : (ids.take m)[k]? = some (nth ids k) := by rw [List.getElem?_take, if_pos hk]; exact h1
  rw [h, List.getElem?_range hk] at h2
  injection h2 with h2
  exact ⟨hk', h2.symm⟩
theorem one_ok {fid : Nat → Nat} {γ' : Gh} {h : Array Obj} {xs : List Value} {ws : List PV} (hR : RL fid γ' h xs.toArray 0 ws) (hl : xs.length = ws.length) : RV fid γ' h (if h : xs.length = 1 then xs[0]'(by omega) else .tuple xs.toArray) (one ws) := by
  rcases ws with _ | ⟨v, _ | ⟨v2, ws⟩⟩
  · have h0 : xs.length = 0 := by simpa using hl
    simp only [one]
    rw [dif_neg (by omega)]
    exact RV_tup.2 ⟨_, rfl, by simp [h0], hR⟩
  · have h0 : xs.length = 1 := by simpa using hl
    simp only [one]
    rw [dif_pos h0]
    simp only [RL] at hR
    obtain ⟨⟨x, hx, hv⟩, _⟩ := hR
    have : xs[0]'(by omega) = x := by
      have h := List.getElem?_eq_getElem (l := xs) (i := 0) (by omega)
      have h2 : xs[0]? = some x := by simpa using hx
      rw [h] at h2; injection h2
    rw [this]; exact hv
  · simp only [one]
    rw [dif_neg (by simp at hl; omega)]
    exact RV_tup.2 ⟨_, rfl, by simp at hl ⊢; omega, hR⟩
theorem finG_ok (S : St C γ w tmps sl ob) {m : Nat} {vs : List PV} {xs : List Value} (hR : RL C.fid γ w.heap xs.toArray 0 vs) (hl : xs.length = vs.length) {r : PV} {out : List Obj'} (hm : m ≤ 64) (hkp : ∀ k, k < m → C.kp k) (hm0 : ∀ k i, C.g0.mu k = some i → k < m)
    (H : finG ob m vs = some (r, out)) : ∃ γ', Ret C γ' w (if h : xs.length = 1 then xs[0]'(by omega) else .tuple xs.toArray) r m out := by
  unfold finG at H
  split at H
  case h_2 => cases H
  rename_i ids hre
  split at H
  case h_2 => cases H
  rename_i os hos
  split at H
  case isFalse => cases H
  rename_i hc
  obtain ⟨htake, h64, _⟩ := hc
  simp only [Option.some.injEq, Prod.mk.injEq] at H
  obtain ⟨rfl, rfl⟩ := H
  obtain ⟨hnd, _, hin, hcl⟩ := reach_ok ob 20 _ _ _ hre (by simp) (fun o h => by cases h)
  obtain ⟨hol, hog⟩ := getOs_ok ob ids os hos
  have mv : ∀ {S'}, (∀ o ∈ S', o ∈ ids) → Mv γ (γ.ren ids) w.heap w.heap S' (idx ids) := by
    intro S' hS
    refine ⟨fun o ho i hi => ⟨i, ?_, .inl rfl⟩, fun g b h => ⟨h, rfl⟩⟩
    obtain ⟨h1, h2⟩ := nth_idx ids o (hS o ho)
    simp only [Gh.ren, h2, if_true, h1]; exact hi
  have hmu : ∀ k i, (γ.ren ids).mu k = some i → k < ids.length ∧ γ.mu (nth ids k) = some i := by
    intro k i h
    simp only [Gh.ren] at h
    split at h
    · rename_i hk; exact ⟨hk, h⟩
    · cases h
  have hobj : ∀ (k : Nat) x, (os.map (renO (idx ids)))[k]? = some x → ∃ X, k < ids.length ∧ getO ob (nth ids k) = some X ∧ x = renO (idx ids) X := by
    intro k x h
    rw [List.getElem?_map] at h
    obtain ⟨X, hX, rfl⟩ := Option.map_eq_some_iff.1 h
    have hk : k < ids.length := by rw [← hol]; exact (List.getElem?_eq_some_iff.1 hX).1
    obtain ⟨Y, hY, hg⟩ := hog k _ (nth_get ids k hk)
    rw [hX] at hY; injection hY with hY; subst hY
    exact ⟨X, hk, hg, rfl⟩
  refine ⟨γ.ren ids, ?_⟩
  constructor
  · exact one_ok (RL_map vs xs.toArray 0 (mv fun o ho => hin o (List.mem_append_right _ ho)) hR) (by rw [length_renL]; exact hl)
  · rw [List.length_map, hol]
    have : (ids.take m).length = m := by rw [htake]; simp
    rw [List.length_take] at this; omega
  · intro k x hx
    obtain ⟨X, hk, hX, rfl⟩ := hobj k x hx
    obtain ⟨i, hi, hlend⟩ := S.obj _ X hX
    refine ⟨i, by simp only [Gh.ren, hk, if_true]; exact hi, ?_⟩
    obtain ⟨Y, hY, hcl'⟩ := hcl _ (List.mem_of_getElem? (nth_get ids k hk))
    rw [hX] at hY; injection hY with hY; subst hY
    obtain ⟨h1, h2, h3, h4⟩ := hlend
    unfold renO
    split
    · rename_i hp
      refine ⟨h1, h2, h3, ?_⟩
      cases hbk : i.blk with
      | none => simpa only [hbk] using h4
      | some b =>
        simp only [hbk] at h4 ⊢
        obtain ⟨g1, cs, g2, g3, g4⟩ := h4
        refine ⟨g1, cs, g2, g3, ?_⟩
        rcases g4 with ⟨g4, g5⟩ | ⟨g4, _⟩
        · exact .inl ⟨g4, g5⟩
        · rw [hp] at g4; cases g4
    · rename_i hp
      refine ⟨h1, h2, by rw [length_renEls]; exact h3, ?_⟩
      cases hbk : i.blk with
      | none => simpa only [hbk] using h4
      | some b =>
        simp only [hbk] at h4 ⊢
        obtain ⟨g1, cs, g2, g3, g4⟩ := h4
        refine ⟨g1, cs, g2, g3, ?_⟩
        rcases g4 with ⟨g4, _⟩ | ⟨g4, g5⟩
        · exact absurd g4 hp
        · refine .inr ⟨g4, REls_map _ _ _ _ (mv ?_) g5⟩
          intro o ho
          refine hcl' o ?_
          unfold refsO; rw [if_neg hp]; exact ho
  · intro k i hi
    rw [List.length_map, hol]; exact (hmu k i hi).1
  · intro k k' i i' b h1 h2 h3 h4
    obtain ⟨hk, g1⟩ := hmu k i h1
    obtain ⟨hk', g2⟩ := hmu k' i' h2
    have := S.inj _ _ i i' b g1 g2 h3 h4
    have := congrArg (idx ids) this
    rwa [idx_nth ids k hnd hk, idx_nth ids k' hnd hk'] at this
  · intro k x i b hx hf hi hb him
    obtain ⟨X, hk, hX, rfl⟩ := hobj k x hx
    obtain ⟨_, g1⟩ := hmu k i hi
    have hf' : X.fro = false := by unfold renO at hf; split at hf <;> exact hf
    exact S.unf _ X i b hX hf' g1 hb him
  · exact fun k i b hi hb => S.own _ i b (hmu k i hi).2 hb
  · exact S.lt
  · exact S.chg
  · exact S.gn
  · intro k i hk hi
    obtain ⟨i', h1, h2⟩ := S.kept k i (hkp k hk) hi
    obtain ⟨h3, h4⟩ := take_nth htake hk
    exact ⟨i', by simp only [Gh.ren, h3, if_true, h4]; exact h1, h2⟩
  · exact S.imk
  · exact S.imn
  · intro k i b hi hb
    obtain ⟨hk, g1⟩ := hmu k i hi
    rcases S.place _ i b g1 hb with ⟨_, j, h1, h2⟩ | h
    · have h3 := hm0 _ j h1
      obtain ⟨h4, h5⟩ := take_nth htake h3
      have : k = nth ids k := by
        have e := idx_nth ids k hnd hk
        have e2 := idx_nth ids (nth ids k) hnd h4
        rw [h5] at e2
        exact e.symm.trans e2
      exact .inl ⟨this ▸ h3, j, by rw [this]; exact h1, h2⟩
    · exact .inr h
def mark (D : Nat) : Deferred := { target := .collected D, args := #[] }
def TP (C0 : Ctx) (r0 : R) : KeepT := fun C' ds r _ => r = r0 ∧ Ext C0 C' ∧ (∀ k, C'.kp k ↔ k < 64) ∧ ∃ Ds : List Nat, Ds.Nodup ∧ ds = Ds.map mark ∧
  ∀ D ∈ Ds, C0.w0.heap.size ≤ D ∧ D < C'.w0.heap.size ∧ ¬ C'.A D ∧ ¬ C'.g0.im D ∧ C'.w0.heap[D]? = some (.deferred (some []))
theorem TP_slot (yp : Bool) (C0 : Ctx) (r0 : R) : SlotOK yp (TP C0 r0) := fun _ _ _ _ _ _ h => h
theorem TP_head (C0 : Ctx) (r0 : R) : HeadOK (TP C0 r0) := fun _ _ _ _ h k hk => (h.2.2.1 k).1 hk
theorem TP_rg (C0 : Ctx) (r0 : R) : RgT (TP C0 r0) := by
  rintro C' ds r sl sl' γ w w' tmps ob Q D ⟨h1, h2, h3, Ds, h4, h5, h6⟩ S hc hQ hq hD hn hi hw hd
  refine ⟨h1, h2.rebase S h2.kp hc (fun b hb hb' => ?_) hq, h3, D :: Ds, List.nodup_cons.2 ⟨fun h => ?_, h4⟩, by rw [h5]; rfl, fun D' hD' => ?_⟩
  · rcases h2.A b (hQ b (Nat.lt_of_lt_of_le hb h2.chg.size) hb') with h | h
    · exact h
    · omega
  · have := (h6 D h).2.1; omega
  · rcases List.mem_cons.1 hD' with rfl | hD'
    · exact ⟨Nat.le_trans h2.chg.size hw, hD, hn, hi, hd⟩
    · obtain ⟨g1, g2, g3, g4, g5⟩ := h6 D' hD'
      have hlt : D' < w.heap.size := Nat.lt_of_lt_of_le g2 S.chg.size
      refine ⟨g1, Nat.lt_of_lt_of_le hlt hc.size, ?_, ?_, ?_⟩
      · rintro ⟨o, i, k1, k2⟩
        rcases S.own o i D' k1 k2 with h | h
        · exact g3 h
        · omega
      · intro h
        rcases S.imn D' h with h | h | h
        · exact g4 h
        · exact g3 h
        · omega
      · refine (hc.block D' hlt (fun h => g3 (hQ D' g2 h))).trans ((S.chg.block D' g2 (fun h => ?_)).trans g5)
        rcases h with h | h
        · exact g3 h
        · omega
theorem leave_ok {C0 : Ctx} {γ : Gh} {fn : Func} {tm tmps : Array Value} {sl : SL} {ob : OB} {R : Ending → World → Prop} {n : Nat} (hQ : ∀ w, St C0 γ w tmps sl ob → ∃ v, (results fn tm).run P w = .ok v w ∧ R (.returned v) w) :
    ∀ (Ds : List Nat) (w : World), Ds.Nodup → (∀ D ∈ Ds, C0.w0.heap.size ≤ D ∧ ¬ γ.im D ∧ ¬ ownB γ D ∧ w.heap[D]? = some (.deferred (some []))) → St C0 γ w tmps sl ob → LeavesInM Fence.wide n P fn tm R (Ds.map mark) .returning w
  | [], w, _, _, S => hQ w S
  | D :: Ds, w, hn, h, S => by
    obtain ⟨h1, h2, h3, h4⟩ := h D (List.mem_cons_self ..)
    refine ⟨by simp, .inl ⟨D, _, rfl, run_takeDeferred h4, leave_ok hQ Ds _ (List.nodup_cons.1 hn).2 (fun D' hD' => ?_) (S.same (Chg.put w D _) (fun b hb e => by omega) (fun b _ e => by subst e; exact ⟨h2, h3⟩))⟩⟩
    obtain ⟨k1, k2, k3, k4⟩ := h D' (List.mem_cons_of_mem _ hD')
    exact ⟨k1, k2, k3, (World.putObj_heap_other (fun e => by subst e; exact (List.nodup_cons.1 hn).1 hD')).trans k4⟩
end
end Go.Proofs.YtmhpkdcnhgmblaaDoor
