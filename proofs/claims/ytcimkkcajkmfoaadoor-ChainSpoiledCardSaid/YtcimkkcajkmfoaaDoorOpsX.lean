/-
  Stores.
-/
import Derived.Test.YtcimkkcajkmfoaaDoorOpsW
set_option linter.all false
namespace Go.Proofs.YtcimkkcajkmfoaaDoor
open Go

section
variable {P : Program} {E : Env} {C : Ctx} {γ : Gh} {w : World} {a : Act} {sl : SL} {ob : OB}
theorem getO_any {u : OB} {o : Nat} (h : u.any (fun y => y.1 == o) = false) : getO u o = none := by
  induction u with
  | nil => rfl
  | cons x r ih =>
    obtain ⟨k, v⟩ := x
    simp only [List.any_cons, Bool.or_eq_false_iff, beq_eq_false_iff_ne] at h
    simp only [getO]
    rw [if_neg h.1]; exact ih h.2
theorem mem_cells {x : Value} {l : List PV} {fid : Nat → Nat} {γ : Gh} {h : Array Obj} (hs : x.cells.size = wds l) (hc : RCells fid γ h x.cells 0 l) : ∀ v ∈ x.cells.toList, v.oneCell' = true := by
  intro v hv
  obtain ⟨i, hi, e⟩ := List.getElem_of_mem hv
  rw [Array.length_toList] at hi
  obtain ⟨u, hu, h1⟩ := oneCell_R hc i (by omega)
  rw [Nat.zero_add, Array.getElem?_eq_getElem hi] at hu
  injection hu with hu
  rw [Array.getElem_toList] at e
  rw [← e, hu]; exact h1

theorem st_ok (S : St C γ w a.tmps sl ob) {av v : PV} {x y : Value} {t : TypeId} {r : Up} (hx : RV C.fid γ w.heap x av) (hy : RV C.fid γ w.heap y v) (hk : known P t = true) (H : st ob (P.cellsOf t) av v = some r) :
    ∃ (w' : World) (γ' : Gh), (Instr.storeAt t x y).run P w = .ok () w' ∧ r.1 = .tup [] ∧ St C γ' w' a.tmps sl (r.2 ++ ob) := by
  obtain ⟨d, hd⟩ := known_some hk
  have hrun : ∀ {b o : Nat} {w' : World}, y.cells.size = P.cellsOf t → (storeCells ⟨b, o, none⟩ y.cells.toList 0).run P w = .ok () w' → (Instr.storeAt t (.pointer (some ⟨b, o, none⟩)) y).run P w = .ok () w' := by
    intro b o w' hs h
    simp [Instr.storeAt, Instr.sureAddr, storeVar, run_sizeOf' hd, hs, h]
  unfold st at H
  split at H
  · rename_i o ver i off
    split at H
    · rename_i hc
      obtain ⟨hst, hw⟩ := hc
      obtain ⟨hsz, hcs⟩ := cells_ok hy hst
      obtain ⟨I, hI, hv, ad, rfl, hh⟩ := RV_p.1 hx
      cases hX : getO ob o with
      | none => simp [hX, stX] at H
      | some X =>
        simp only [hX, stX] at H
        split at H
        · rename_i hc2
          obtain ⟨hfro, hver⟩ := hc2
          obtain ⟨I', hI', h1, h2, h3, h4⟩ := S.obj o X hX
          rw [hI] at hI'; injection hI' with hI'; subst hI'
          obtain ⟨b, hb, rfl⟩ := hh (by omega)
          simp only [hb] at h4
          obtain ⟨hwI, cs, hown, htot, hels⟩ := h4
          cases hel : X.els[i]? with
          | none => simp [hel, stE] at H
          | some el =>
            simp only [hel, stE] at H
            have hilt : i < X.els.length := (List.getElem?_eq_some_iff.1 hel).1
            have hmul : i * I.w + I.w ≤ cs.size := by
              have := Nat.mul_le_mul_right I.w (show i + 1 ≤ I.tot by omega)
              rw [Nat.succ_mul] at this; omega
            obtain ⟨tt, fr, hhp, hfr⟩ := hown
            -- the write
            have write : off + wds (cellsOf v) ≤ wds el → wds el = I.w → ∃ w' cs', (Instr.storeAt t (.pointer (some ⟨b, i * I.w + off + Option.getD none 0, none⟩)) y).run P w = .ok () w' ∧ ownAt w'.heap b cs' ∧ cs'.size = cs.size ∧ Wr w w' b ∧
                (∀ k u, k < i * I.w + off ∨ i * I.w + off + wds (cellsOf v) ≤ k → cs[k]? = some u → cs'[k]? = some u) ∧ ∀ k u, k < wds (cellsOf v) → y.cells[k]? = some u → cs'[i * I.w + off + k]? = some u := by
              intro hfit hwel
              have hlen : y.cells.toList.length = wds (cellsOf v) := by rw [Array.length_toList]; exact hsz
              obtain ⟨w', cs', g1, g2, g3, g4, g5⟩ := run_storeCells_own (P := P) b (i * I.w + off) tt fr y.cells.toList 0 cs w hhp hfr (by rw [hlen]; omega) (mem_cells hsz hcs)
              refine ⟨w', cs', hrun (by rw [hsz, hw]) g1, ⟨tt, fr, g2, by rw [g3]; exact hfr⟩, g3, g4, fun k u hk hu => ?_, fun k u hk hu => ?_⟩
              · rw [g5, if_neg (by rw [hlen]; omega)]; exact hu
              · rw [g5, if_pos (by rw [hlen]; omega)]
                rw [show i * I.w + off + k - (i * I.w + off + 0) = k by omega, Array.getElem?_toList]; exact hu
            split at H
            · -- plain data
              rename_i hpu
              cases hq : puris ob (cellsOf v) with
              | none => simp [hq, stP] at H
              | some q =>
                obtain ⟨l', g, u⟩ := q
                simp only [hq, stP] at H
                obtain ⟨k1, k2, k3⟩ := puris_ok S hq hcs
                cases hel' : putW el off l' with
                | none => simp [hel', stQ] at H
                | some el' =>
                  simp only [hel', stQ] at H
                  split at H
                  · cases H
                  · rename_i hany
                    injection H with H; subst H
                    have hun : getO u o = none := getO_any (Bool.eq_false_iff.2 hany)
                    rcases hels with ⟨_, hels⟩ | ⟨hp, _⟩
                    · have hE := PEls_get hels i el hel
                      rw [Nat.zero_add] at hE
                      have hfit := putW_fits hel'
                      rw [k2] at hfit
                      obtain ⟨w', cs', g1, g2, g3, g4, g5, g6⟩ := write hfit hE.1
                      obtain ⟨M, S1⟩ := S.frz (u := u) k1
                      have m1 : ∀ c, γ.q X.g c → (γ.frz u).q (X.g && g) c ∧ w.heap[c]? = w.heap[c]? := fun c h => ⟨⟨.inl h.1, fun e => h.2 (by simp at e; exact e.1)⟩, rfl⟩
                      have m2 : ∀ c, (γ.frz u).q g c → (γ.frz u).q (X.g && g) c ∧ w.heap[c]? = w.heap[c]? := fun c h => ⟨⟨h.1, fun e => h.2 (by simp at e; exact e.2)⟩, rfl⟩
                      have hnew := PCells_mono m2 _ _ _ (k3 u (fun o x h => ⟨x, h⟩))
                      obtain ⟨hp1, hp2⟩ := putW_P (cs' := cs') hel' (PCells_mono m1 _ _ _ hE.2) hnew
                        (fun k u hk hu => g5 _ u (by simp only [k2] at hk; omega) hu) (fun k u hk hu => g6 k u (by simp only [k2] at hk; exact hk) hu)
                      have hset := PEls_set (cs' := cs') (PEls_mono m1 _ _ _ _ hels) hel (by rw [hp2, hE.1]) hp1 (fun k u hk hu => g5 k u (by rw [hE.1] at hfit; omega) hu)
                      have := S1.upd (x' := { X with els := X.els.set i el', g := X.g && g }) ((getO_app_none hun).trans hX) hfro hI hb g4 g2 (by rw [g3]; exact htot) rfl rfl (by simp) rfl (.inl ⟨hpu, hset⟩)
                      exact ⟨w', _, g1, rfl, this⟩
                    · rw [hpu] at hp; cases hp
            · -- whatever
              rename_i hpu
              cases hel' : putW el off (cellsOf v) with
              | none => simp [hel', stD] at H
              | some el' =>
                simp only [hel', stD] at H
                injection H with H; subst H
                rcases hels with ⟨hp, _⟩ | ⟨hp, hels⟩
                · exact absurd hp hpu
                · have hE := REls_get hels i el hel
                  rw [Nat.zero_add] at hE
                  have hfit := putW_fits hel'
                  obtain ⟨w', cs', g1, g2, g3, g4, g5, g6⟩ := write hfit hE.1
                  obtain ⟨hp1, hp2⟩ := putW_ok (cs' := cs') hel' hE.2 hcs
                    (fun k u hk hu => g5 _ u (by omega) hu) (fun k u hk hu => g6 k u hk hu)
                  have hset := REls_set (cs' := cs') hels hel (by rw [hp2, hE.1]) hp1 (fun k u hk hu => g5 k u (by rw [hE.1] at hfit; omega) hu)
                  have := S.upd (x' := { X with els := X.els.set i el' }) hX hfro hI hb g4 g2 (by rw [g3]; exact htot) rfl rfl (by simp) rfl (.inr ⟨hp, hset⟩)
                  exact ⟨w', _, g1, rfl, this⟩
        · cases H
    · cases H
  · rename_i o ver i off k
    split at H
    · rename_i hn
      obtain ⟨I, hI, hv, ad, rfl, hh⟩ := RV_p.1 hx
      cases hX : getO ob o with
      | none => simp [hX, stB] at H
      | some X =>
        simp only [hX, stB] at H
        split at H
        · rename_i hc2
          obtain ⟨hfro, hver, hpu, hsc⟩ := hc2
          obtain ⟨I', hI', h1, h2, h3, h4⟩ := S.obj o X hX
          rw [hI] at hI'; injection hI' with hI'; subst hI'
          obtain ⟨b, hb, rfl⟩ := hh (by omega)
          simp only [hb] at h4
          obtain ⟨hwI, cs, hown, htot, hels⟩ := h4
          cases hel : X.els[i]? with
          | none => simp [hel, stG] at H
          | some el =>
            simp only [hel, stG] at H
            have hilt : i < X.els.length := (List.getElem?_eq_some_iff.1 hel).1
            have hmul : i * I.w + I.w ≤ cs.size := by
              have := Nat.mul_le_mul_right I.w (show i + 1 ≤ I.tot by omega)
              rw [Nat.succ_mul] at this; omega
            obtain ⟨tt, fr, hhp, hfr⟩ := hown
            unfold stF at H
            split at H
            · rename_i m xs c pre hdr htk
              split at H
              · rename_i hkl
                injection H with H; subst H
                obtain ⟨e1, e2⟩ := takeW_dropW htk hdr
                rcases hels with ⟨hp, _⟩ | ⟨hp, hels⟩
                · rw [hpu] at hp; cases hp
                · have hE := REls_get hels i el hel
                  rw [Nat.zero_add] at hE
                  have hE2 := hE.2
                  rw [e1, RCells_app, e2] at hE2
                  simp only [RCells, RAt] at hE2
                  obtain ⟨q1, ⟨⟨_, hml, hbl⟩, q2⟩⟩ := hE2
                  have hwel := hE.1
                  rw [e1, wds_app, e2] at hwel
                  simp only [wds, wd] at hwel
                  have hone : y.cells = #[y] ∧ scalR v y := by
                    cases v <;> simp only [scal, Bool.false_eq_true] at hsc
                    · have := RV_b.1 hy; subst this; exact ⟨rfl, rfl⟩
                    · have := RV_i.1 hy; subst this; exact ⟨rfl, rfl⟩
                    · obtain ⟨s, e, hs⟩ := RV_s.1 hy; subst e; exact ⟨rfl, s, rfl, hs⟩
                  obtain ⟨w', cs', g1, g2, g3, g4, g5⟩ := run_storeCells_own (P := P) b (i * I.w + off + k) tt fr [y] 0 cs w hhp hfr (by simp; omega) (by simpa using scalR_one hone.2)
                  have hsame : ∀ j u, j ≠ i * I.w + off + k → cs[j]? = some u → cs'[j]? = some u := by
                    intro j u hj hu
                    rw [g5, if_neg (by simp; omega)]; exact hu
                  have hput : cs'[i * I.w + off + k]? = some y := by
                    rw [g5, if_pos (by simp)]; simp
                  have hnew : RCells C.fid γ w.heap cs' (i * I.w) (pre ++ (.blob m (xs.set k v) :: c)) := by
                    rw [RCells_app, e2]
                    refine ⟨RCells_at (fun j u hj hu => hsame _ u (by omega) hu) q1, ?_⟩
                    simp only [RCells, RAt]
                    refine ⟨⟨rfl, by simp; exact hml, fun j u hj => ?_⟩, RCells_at (fun j u hj hu => hsame _ u (by simp only [wd]; omega) hu) q2⟩
                    rw [List.getElem?_set] at hj
                    split at hj
                    · rename_i e; subst e
                      injection hj with hj; subst hj
                      exact ⟨y, hput, hone.2⟩
                    · rename_i e
                      obtain ⟨z, hz, hzs⟩ := hbl j u hj
                      exact ⟨z, hsame _ z (by omega) hz, hzs⟩
                  have hset := REls_set (cs' := cs') hels hel (by rw [wds_app, e2]; simp only [wds, wd]; omega) hnew (fun j u hj hu => hsame j u (by omega) hu)
                  have := S.upd (x' := { X with els := X.els.set i (pre ++ (.blob m (xs.set k v) :: c)) }) hX hfro hI hb g4 ⟨tt, fr, g2, by rw [g3]; exact hfr⟩ (by rw [g3]; exact htot) rfl rfl (by simp) rfl (.inr ⟨hp, hset⟩)
                  refine ⟨w', _, ?_, rfl, this⟩
                  have hsz : y.cells.size = P.cellsOf t := by rw [hone.1, hn]; rfl
                  exact hrun hsz (by rw [hone.1]; simpa using g1)
              · cases H
            · cases H
        · cases H
    · cases H
  · cases H
end
end Go.Proofs.YtcimkkcajkmfoaaDoor
