import Derived.Test.YtnkapponcbgbhaaOpsU
import Derived.Laws.Append
import Derived.Laws.AppendOwn
set_option linter.all false
namespace Go.Proofs.Ytnkapponcbgbhaa
section
open Go
section
variable {P : Program} {E : Env} {C : Ctx} {γ : Gh} {w : World} {a : Act} {sl : SL} {ob : OB}
theorem getO_any {u : OB} {o : Nat} (h : u.any (fun y => y.1 == o) = false) : getO u o = none := by
  induction u with
  | nil => rfl
  | cons x r ih =>
    obtain ⟨k, v⟩ := x
    simp only [List.any_cons, Bool.or_eq_false_iff, beq_eq_false_iff_ne] at h
    simp only [getO]
    rw [if_neg h.1]; exact ih h.2
theorem mem_cells {x : Value} {l : List PV} {fid : Nat → Nat} {γ : Gh} {h : Array Obj} (hs : x.cells.size = wds l) (hc : RCells fid γ h x.cells 0 l) : ∀ v ∈ x.cells.toList, v.oneCell' = true := by
  intro v hv
  obtain ⟨i, hi, e⟩ := List.getElem_of_mem hv
  rw [Array.length_toList] at hi
  obtain ⟨u, hu, h1⟩ := oneCell_R hc i (by omega)
  rw [Nat.zero_add, Array.getElem?_eq_getElem hi] at hu
  injection hu with hu
  rw [Array.getElem_toList] at e
  rw [← e, hu]; exact h1
theorem st_ok (S : St C γ w a.tmps sl ob) {av v : PV} {x y : Value} {t : TypeId} {r : Up} (hx : RV C.fid γ w.heap x av) (hy : RV C.fid γ w.heap y v) (hk : known P t = true) (H : st ob (P.cellsOf t) av v = some r) :
    ∃ (w' : World) (γ' : Gh), (Instr.storeAt t x y).run P w = .ok () w' ∧ r.1 = .tup [] ∧ St C γ' w' a.tmps sl (r.2 ++ ob) := by
  obtain ⟨d, hd⟩ := known_some hk
  have hrun : ∀ {b o : Nat} {w' : World}, y.cells.size = P.cellsOf t → (storeCells ⟨b, o, none⟩ y.cells.toList 0).run P w = .ok () w' → (Instr.storeAt t (.pointer (some ⟨b, o, none⟩)) y).run P w = .ok () w' := by
    intro b o w' hs h
    simp [Instr.storeAt, Instr.sureAddr, storeVar, run_sizeOf' hd, hs, h]
  unfold st at H
  split at H
  · rename_i o ver i off
    split at H
    · rename_i hc
      obtain ⟨hst, hw⟩ := hc
      obtain ⟨hsz, hcs⟩ := cells_ok hy hst
      obtain ⟨I, hI, hv, ad, rfl, hh⟩ := RV_p.1 hx
      cases hX : getO ob o with
      | none => simp [hX, stX] at H
      | some X =>
        simp only [hX, stX] at H
        split at H
        · rename_i hc2
          obtain ⟨hfro, hver⟩ := hc2
          obtain ⟨I', hI', h1, h2, h3, h4⟩ := S.obj o X hX
          rw [hI] at hI'; injection hI' with hI'; subst hI'
          obtain ⟨b, hb, rfl⟩ := hh (by omega)
          simp only [hb] at h4
          obtain ⟨hwI, cs, hown, htot, hels⟩ := h4
          cases hel : X.els[i]? with
          | none => simp [hel, stE] at H
          | some el =>
            simp only [hel, stE] at H
            have hilt : i < X.els.length := (List.getElem?_eq_some_iff.1 hel).1
            have hmul : i * I.w + I.w ≤ cs.size := by
              have := Nat.mul_le_mul_right I.w (show i + 1 ≤ I.tot by omega)
              rw [Nat.succ_mul] at this; omega
            obtain ⟨hmp, hown⟩ := hown.cells (.inl fun e0 => by rw [e0] at hel; simp at hel)
            obtain ⟨tt, fr, hhp, hfr⟩ := hown
            have write : off + wds (cellsOf v) ≤ wds el → wds el = I.w → ∃ w' cs', (Instr.storeAt t (.pointer (some ⟨b, i * I.w + off + Option.getD none 0, none⟩)) y).run P w = .ok () w' ∧ ownAt w'.heap b cs' ∧ cs'.size = cs.size ∧ Wr w w' b ∧
                (∀ k u, k < i * I.w + off ∨ i * I.w + off + wds (cellsOf v) ≤ k → cs[k]? = some u → cs'[k]? = some u) ∧ ∀ k u, k < wds (cellsOf v) → y.cells[k]? = some u → cs'[i * I.w + off + k]? = some u := by
              intro hfit hwel
              have hlen : y.cells.toList.length = wds (cellsOf v) := by rw [Array.length_toList]; exact hsz
              obtain ⟨w', cs', g1, g2, g3, g4, g5⟩ := run_storeCells_own (P := P) b (i * I.w + off) tt fr y.cells.toList 0 cs w hhp hfr (by rw [hlen]; omega) (mem_cells hsz hcs)
              refine ⟨w', cs', hrun (by rw [hsz, hw]) g1, ⟨tt, fr, g2, by rw [g3]; exact hfr⟩, g3, g4, fun k u hk hu => ?_, fun k u hk hu => ?_⟩
              · rw [g5, if_neg (by rw [hlen]; omega)]; exact hu
              · rw [g5, if_pos (by rw [hlen]; omega)]
                rw [show i * I.w + off + k - (i * I.w + off + 0) = k by omega, Array.getElem?_toList]; exact hu
            split at H
            · 
              rename_i hpu
              cases hq : puris ob (cellsOf v) with
              | none => simp [hq, stP] at H
              | some q =>
                obtain ⟨l', g, u⟩ := q
                simp only [hq, stP] at H
                obtain ⟨k1, k2, k3⟩ := puris_ok S hq hcs
                cases hel' : putW el off l' with
                | none => simp [hel', stQ] at H
                | some el' =>
                  simp only [hel', stQ] at H
                  split at H
                  · cases H
                  · rename_i hany
                    injection H with H; subst H
                    have hun : getO u o = none := getO_any (Bool.eq_false_iff.2 hany)
                    rcases hels with ⟨_, hels⟩ | ⟨hp, _⟩
                    · have hE := PEls_get hels i el hel
                      rw [Nat.zero_add] at hE
                      have hfit := putW_fits hel'
                      rw [k2] at hfit
                      obtain ⟨w', cs', g1, g2, g3, g4, g5, g6⟩ := write hfit hE.1
                      obtain ⟨M, S1⟩ := S.frz (u := u) k1
                      have m1 : ∀ c, γ.q X.g c → (γ.frz u).q (X.g && g) c ∧ w.heap[c]? = w.heap[c]? := fun c h => ⟨⟨.inl h.1, fun e => h.2 (by simp at e; exact e.1)⟩, rfl⟩
                      have m2 : ∀ c, (γ.frz u).q g c → (γ.frz u).q (X.g && g) c ∧ w.heap[c]? = w.heap[c]? := fun c h => ⟨⟨h.1, fun e => h.2 (by simp at e; exact e.2)⟩, rfl⟩
                      have hnew := PCells_mono m2 _ _ _ (k3 u (fun o x h => ⟨x, h⟩))
                      obtain ⟨hp1, hp2⟩ := putW_P (cs' := cs') hel' (PCells_mono m1 _ _ _ hE.2) hnew
                        (fun k u hk hu => g5 _ u (by simp only [k2] at hk; omega) hu) (fun k u hk hu => g6 k u (by simp only [k2] at hk; exact hk) hu)
                      have hset := PEls_set (cs' := cs') (PEls_mono m1 _ _ _ _ hels) hel (by rw [hp2, hE.1]) hp1 (fun k u hk hu => g5 k u (by rw [hE.1] at hfit; omega) hu)
                      have := S1.upd (x' := { X with els := X.els.set i el', g := X.g && g }) ((getO_app_none hun).trans hX) hfro hI hb g4 g2 (by rw [g3]; exact htot) rfl rfl (by simp) rfl (.inl ⟨hpu, hset⟩)
                      exact ⟨w', _, g1, rfl, this⟩
                    · rw [hpu] at hp; cases hp
            · 
              rename_i hpu
              cases hel' : putW el off (cellsOf v) with
              | none => simp [hel', stD] at H
              | some el' =>
                simp only [hel', stD] at H
                injection H with H; subst H
                rcases hels with ⟨hp, _⟩ | ⟨hp, hels⟩
                · exact absurd hp hpu
                · have hE := REls_get hels i el hel
                  rw [Nat.zero_add] at hE
                  have hfit := putW_fits hel'
                  obtain ⟨w', cs', g1, g2, g3, g4, g5, g6⟩ := write hfit hE.1
                  obtain ⟨hp1, hp2⟩ := putW_ok (cs' := cs') hel' hE.2 hcs
                    (fun k u hk hu => g5 _ u (by omega) hu) (fun k u hk hu => g6 k u hk hu)
                  have hset := REls_set (cs' := cs') hels hel (by rw [hp2, hE.1]) hp1 (fun k u hk hu => g5 k u (by rw [hE.1] at hfit; omega) hu)
                  have := S.upd (x' := { X with els := X.els.set i el' }) hX hfro hI hb g4 g2 (by rw [g3]; exact htot) rfl rfl (by simp) rfl (.inr ⟨hp, hset⟩)
                  exact ⟨w', _, g1, rfl, this⟩
        · cases H
    · cases H
  · rename_i o ver i off k
    split at H
    · rename_i hn
      obtain ⟨I, hI, hv, ad, rfl, hh⟩ := RV_p.1 hx
      cases hX : getO ob o with
      | none => simp [hX, stB] at H
      | some X =>
        simp only [hX, stB] at H
        split at H
        · rename_i hc2
          obtain ⟨hfro, hver, hpu, hsc⟩ := hc2
          obtain ⟨I', hI', h1, h2, h3, h4⟩ := S.obj o X hX
          rw [hI] at hI'; injection hI' with hI'; subst hI'
          obtain ⟨b, hb, rfl⟩ := hh (by omega)
          simp only [hb] at h4
          obtain ⟨hwI, cs, hown, htot, hels⟩ := h4
          cases hel : X.els[i]? with
          | none => simp [hel, stG] at H
          | some el =>
            simp only [hel, stG] at H
            have hilt : i < X.els.length := (List.getElem?_eq_some_iff.1 hel).1
            have hmul : i * I.w + I.w ≤ cs.size := by
              have := Nat.mul_le_mul_right I.w (show i + 1 ≤ I.tot by omega)
              rw [Nat.succ_mul] at this; omega
            obtain ⟨hmp, hown⟩ := hown.cells (.inl fun e0 => by rw [e0] at hel; simp at hel)
            obtain ⟨tt, fr, hhp, hfr⟩ := hown
            unfold stF at H
            split at H
            · rename_i m xs c pre hdr htk
              split at H
              · rename_i hkl
                injection H with H; subst H
                obtain ⟨e1, e2⟩ := takeW_dropW htk hdr
                rcases hels with ⟨hp, _⟩ | ⟨hp, hels⟩
                · rw [hpu] at hp; cases hp
                · have hE := REls_get hels i el hel
                  rw [Nat.zero_add] at hE
                  have hE2 := hE.2
                  rw [e1, RCells_app, e2] at hE2
                  simp only [RCells, RAt] at hE2
                  obtain ⟨q1, ⟨⟨_, hml, hbl⟩, q2⟩⟩ := hE2
                  have hwel := hE.1
                  rw [e1, wds_app, e2] at hwel
                  simp only [wds, wd] at hwel
                  have hone : y.cells = #[y] ∧ scalR v y := by
                    cases v <;> simp only [scal, Bool.false_eq_true] at hsc
                    · have := RV_b.1 hy; subst this; exact ⟨rfl, rfl⟩
                    · have := RV_i.1 hy; subst this; exact ⟨rfl, rfl⟩
                    · obtain ⟨s, e, hs⟩ := RV_s.1 hy; subst e; exact ⟨rfl, s, rfl, hs⟩
                  obtain ⟨w', cs', g1, g2, g3, g4, g5⟩ := run_storeCells_own (P := P) b (i * I.w + off + k) tt fr [y] 0 cs w hhp hfr (by simp; omega) (by simpa using scalR_one hone.2)
                  have hsame : ∀ j u, j ≠ i * I.w + off + k → cs[j]? = some u → cs'[j]? = some u := by
                    intro j u hj hu
                    rw [g5, if_neg (by simp; omega)]; exact hu
                  have hput : cs'[i * I.w + off + k]? = some y := by
                    rw [g5, if_pos (by simp)]; simp
                  have hnew : RCells C.fid γ w.heap cs' (i * I.w) (pre ++ (.blob m (xs.set k v) :: c)) := by
                    rw [RCells_app, e2]
                    refine ⟨RCells_at (fun j u hj hu => hsame _ u (by omega) hu) q1, ?_⟩
                    simp only [RCells, RAt]
                    refine ⟨⟨rfl, by simp; exact hml, fun j u hj => ?_⟩, RCells_at (fun j u hj hu => hsame _ u (by simp only [wd]; omega) hu) q2⟩
                    rw [List.getElem?_set] at hj
                    split at hj
                    · rename_i e; subst e
                      injection hj with hj; subst hj
                      exact ⟨y, hput, hone.2⟩
                    · rename_i e
                      obtain ⟨z, hz, hzs⟩ := hbl j u hj
                      exact ⟨z, hsame _ z (by omega) hz, hzs⟩
                  have hset := REls_set (cs' := cs') hels hel (by rw [wds_app, e2]; simp only [wds, wd]; omega) hnew (fun j u hj hu => hsame j u (by omega) hu)
                  have := S.upd (x' := { X with els := X.els.set i (pre ++ (.blob m (xs.set k v) :: c)) }) hX hfro hI hb g4 ⟨tt, fr, g2, by rw [g3]; exact hfr⟩ (by rw [g3]; exact htot) rfl rfl (by simp) rfl (.inr ⟨hp, hset⟩)
                  refine ⟨w', _, ?_, rfl, this⟩
                  have hsz : y.cells.size = P.cellsOf t := by rw [hone.1, hn]; rfl
                  exact hrun hsz (by rw [hone.1]; simpa using g1)
              · cases H
            · cases H
        · cases H
    · cases H
  · cases H
end
end
section
open Go
section
variable {P : Program} {E : Env} {C : Ctx} {γ : Gh} {w : World} {a : Act} {sl : SL} {ob : OB}
def LoV (v : Option Value) (l : Int) (d : Int) : Prop := (v = none ∧ l = d) ∨ ∃ k, v = some (.int k l)
theorem run_bound {k : IntKind} {l : Int} {y : Nat} {code : BoundsCode} (h0 : 0 ≤ l) (h1 : l ≤ y) : (Instr.sliceBound (.int k l) y code).run P w = .ok l.toNat w := by
  simp [Instr.sliceBound, asIntOf, h0, h1]
theorem run_bounds2 {b : Bool} {len cap : Nat} {lo hi : Option Value} {l h : Int} (hl : LoV lo l 0) (hh : LoV hi h len) (h0 : 0 ≤ l) (h1 : l ≤ h) (h2 : h ≤ cap) :
    (Instr.sliceBounds b len cap lo hi none).run P w = .ok (l.toNat, h.toNat, cap) w := by
  unfold Instr.sliceBounds
  have e1 : (h.toNat : Int) = h := by omega
  rcases hl with ⟨rfl, rfl⟩ | ⟨k, rfl⟩ <;> rcases hh with ⟨rfl, rfl⟩ | ⟨k', rfl⟩ <;>
    simp (disch := omega) [run_bound]
theorem run_bounds3 {b : Bool} {len cap : Nat} {lo : Option Value} {k k' : IntKind} {l h m : Int} (hl : LoV lo l 0) (h0 : 0 ≤ l) (h1 : l ≤ h) (h2 : h ≤ m) (h3 : m ≤ cap) :
    (Instr.sliceBounds b len cap lo (some (.int k h)) (some (.int k' m))).run P w = .ok (l.toNat, h.toNat, m.toNat) w := by
  unfold Instr.sliceBounds
  rcases hl with ⟨rfl, rfl⟩ | ⟨k, rfl⟩ <;> simp (disch := omega) [run_bound]
theorem run_slice {t e : TypeId} {d : TypeDesc} (hu : P.underlying t = some (.slice e)) (hd : P.underlying e = some d) {ad : Option Addr} {len cap l h m : Nat} {lo hi mx : Option Value} (hb : (Instr.sliceBounds true len cap lo hi mx).run P w = .ok (l, h, m) w) :
    (Instr.sliceAt t (.slice ad len cap) lo hi mx).run P w = .ok (.slice (if m = l then ad else ad.map (·.add (l * P.cellsOf e))) (h - l) (m - l)) w := by
  simp [Instr.sliceAt, Instr.slice, run_underlying' hu, run_sizeOf' hd, hb]
theorem natI_ok {fid : Nat → Nat} {h : Array Obj} {x : Value} {v : PV} {n : Int} (hx : RV fid γ h x v) (H : natI v = some n) : ∃ k, x = .int k n := by
  unfold natI at H
  split at H
  · injection H with H; subst H; exact ⟨_, RV_i.1 hx⟩
  · cases H
variable (hE : E.fid = C.fid) (hG : E.glob = C.glob) (S : St C γ w a.tmps sl ob)
include hE hG S
theorem optI_ok {x : Option Operand} {d l : Int} (H : optI (evo E sl x) d = some l) : LoV (x.map a.eval) l d := by
  cases x with
  | none => simp only [evo, optI, Option.some.injEq] at H; exact .inl ⟨rfl, H.symm⟩
  | some x =>
    simp only [evo, optI] at H
    obtain ⟨k, e⟩ := natI_ok (ev_ok hE hG S x) H
    exact .inr ⟨k, by simp [e]⟩
omit hE hG S in
theorem part_row {q : Nat → Prop} {h : Array Obj} {cs : Array Value} {w' o l hh : Nat} {xs : List (List PV)} (H : PEls h q cs w' o xs) : PEls h q cs w' (o + l * w') ((xs.take hh).drop l) := by
  rw [List.drop_take]; exact PEls_sub H l (hh - l)
theorem slc_ok {t e : TypeId} {x : Operand} {lo hi mx : Option Operand} {r : Up} (hmx : (mx.isSome && hi.isNone) = false) (hu : P.underlying t = some (.slice e)) (hk : known P e = true)
    (H : slc ob (.slice (P.cellsOf e)) (ev E sl x) (evo E sl lo) (evo E sl hi) (evo E sl mx) = some r) :
    ∃ (y : Value) (γ' : Gh), (Instr.sliceAt t (a.eval x) (lo.map a.eval) (hi.map a.eval) (mx.map a.eval)).run P w = .ok y w ∧ RV C.fid γ' w.heap y r.1 ∧ St C γ' w a.tmps sl (r.2 ++ ob) := by
  obtain ⟨d, hd⟩ := known_some hk
  have hx := ev_ok hE hG S x
  have bounds : ∀ {dh dm l h m : Int} {len cap : Nat}, optI (evo E sl lo) 0 = some l → optI (evo E sl hi) dh = some h → optI (evo E sl mx) dm = some m → dh = len → (mx = none → m ≤ cap) → (mx ≠ none → m ≤ cap) → 0 ≤ l → l ≤ h → h ≤ m →
      ∃ m' : Nat, (Instr.sliceBounds true len cap (lo.map a.eval) (hi.map a.eval) (mx.map a.eval)).run P w = .ok (l.toNat, h.toNat, m') w ∧ m ≤ m' ∧ m' ≤ cap ∧ (mx ≠ none → m' = m.toNat) ∧ (mx = none → m' = cap) := by
    intro dh dm l h m len cap h1 h2 h3 e1 hm1 hm2 h0 hlh hhm
    have g1 := optI_ok hE hG S h1
    have g2 := optI_ok hE hG S h2
    have g3 := optI_ok hE hG S h3
    cases mx with
    | none =>
      have := hm1 rfl
      subst e1
      exact ⟨cap, run_bounds2 g1 g2 h0 hlh (by omega), by omega, by omega, fun h => absurd rfl h, fun _ => rfl⟩
    | some mx =>
      have := hm2 (by simp)
      cases hi with
      | none => simp at hmx
      | some hi =>
        rcases g2 with ⟨h, _⟩ | ⟨k, g2⟩
        · simp at h
        · rcases g3 with ⟨h, _⟩ | ⟨k', g3⟩
          · simp at h
          · simp only [Option.map_some, Option.some.injEq] at g2 g3
            refine ⟨m.toNat, ?_, by omega, by omega, fun _ => rfl, fun h => by cases h⟩
            simp only [Option.map_some, g2, g3]
            exact run_bounds3 g1 h0 hlh hhm (by omega)
  have lcase : ∀ {g : Bool} {xs : List (List PV)}, RV C.fid γ w.heap (a.eval x) (.l g xs) → allW (P.cellsOf e) xs = true → slL g xs (optI (evo E sl lo) 0) (optI (evo E sl hi) xs.length) (optI (evo E sl mx) xs.length) = some r →
      ∃ (y : Value) (γ' : Gh), (Instr.sliceAt t (a.eval x) (lo.map a.eval) (hi.map a.eval) (mx.map a.eval)).run P w = .ok y w ∧ RV C.fid γ' w.heap y r.1 ∧ St C γ' w a.tmps sl (r.2 ++ ob) := by
    intro g xs hx hW H
    cases h1 : optI (evo E sl lo) 0 with
    | none => simp [h1, slL] at H
    | some l =>
      cases h2 : optI (evo E sl hi) xs.length with
      | none => simp [h1, h2, slL] at H
      | some h =>
        cases h3 : optI (evo E sl mx) xs.length with
        | none => simp [h1, h2, h3, slL] at H
        | some m =>
          simp only [h1, h2, h3, slL] at H
          split at H
          · rename_i hc
            obtain ⟨c1, c2, c3, c4⟩ := hc
            injection H with H; subst H
            obtain ⟨ad, c, e1, hle, hE'⟩ := RV_l.1 hx
            obtain ⟨m', hb, hm, hmc, _⟩ := bounds (cap := c) h1 h2 h3 rfl (fun _ => by omega) (fun _ => by omega) c1 c2 c3
            refine ⟨_, γ, by rw [e1]; exact run_slice hu hd hb, RV_l.2 ⟨if m' = l.toNat then ad else ad.map (·.add (l.toNat * P.cellsOf e)), m' - l.toNat, ?_, ?_, ?_⟩, S⟩
            · congr 1; simp only [List.length_drop, List.length_take]; omega
            · simp only [List.length_drop, List.length_take]; omega
            · rcases hE' with hE' | ⟨b, o, w', cs, rfl, hq, hrow, hE'⟩
              · left; subst hE'; simp
              · rcases Nat.lt_or_ge l.toNat h.toNat with hlt | hge
                · right
                  have hw' : w' = P.cellsOf e := by
                    cases xs with
                    | nil => simp at c4; omega
                    | cons x0 r0 =>
                      simp only [PEls] at hE'
                      simp only [allW, Bool.and_eq_true, beq_iff_eq] at hW
                      rw [← hE'.1, hW.1]
                  subst hw'
                  refine ⟨b, o + l.toNat * P.cellsOf e, P.cellsOf e, cs, ?_, hq, hrow, part_row hE'⟩
                  rw [if_neg (by omega)]; simp [add_none]
                · left; apply List.eq_nil_of_length_eq_zero; simp only [List.length_drop, List.length_take]; omega
          · cases H
  unfold slc at H
  split at H
  · rename_i mxv w0 g xs e1 e2
    injection e1 with e1; subst e1
    split at H
    · rename_i hW; exact lcase (e2 ▸ hx) hW H
    · cases H
  · rename_i mxv w0 g xs e1 e2
    injection e1 with e1; subst e1
    split at H
    · rename_i hW; exact lcase (RV_ln.1 (e2 ▸ hx)).1 hW H
    · cases H
  · rename_i mxv w0 nl e1 e2
    rw [e2] at hx
    cases h1 : optI (evo E sl lo) 0 with
    | none => simp [h1, slE] at H
    | some l =>
      cases h2 : optI (evo E sl hi) 0 with
      | none => simp [h1, h2, slE] at H
      | some h =>
        cases h3 : optI (evo E sl mx) 0 with
        | none => simp [h1, h2, h3, slE] at H
        | some m =>
          simp only [h1, h2, h3, slE] at H
          split at H
          · rename_i hc
            obtain ⟨c1, c2, c3, c4⟩ := hc
            injection H with H; subst H
            obtain ⟨ad, e1, hn⟩ := RV_e.1 hx
            obtain ⟨m', hb, hm, hmc, _⟩ := bounds (len := 0) (cap := 0) h1 h2 h3 rfl (fun _ => by omega) (fun _ => by omega) c1 c2 c3
            have hm' : m' = 0 := by omega
            subst hm'
            refine ⟨_, γ, by rw [e1]; exact run_slice hu hd hb, RV_e.2 ⟨ad, ?_, hn⟩, S⟩
            rw [if_pos (by omega)]; congr 1 <;> omega
          · cases H
  · rename_i mxv w0 o ver lo' n e1 e2
    injection e1 with e1; subst e1
    rw [e2] at hx
    cases hY : getO ob o with
    | none => simp [hY, slO] at H
    | some Y =>
      cases h1 : optI (evo E sl lo) 0 with
      | none => simp [hY, h1, slO] at H
      | some l =>
        cases h2 : optI (evo E sl hi) n with
        | none => simp [hY, h1, h2, slO] at H
        | some h =>
          obtain ⟨I, hI, hv, ad, c, ex, hh⟩ := RV_sl.1 hx
          obtain ⟨I', hI', q1, q2, q3, q4⟩ := S.obj o Y hY
          rw [hI] at hI'; injection hI' with hI'; subst hI'
          cases mx with
          | none =>
            simp only [hY, h1, h2, show evo E sl none = none from rfl, Option.map_none, slO] at H
            split at H
            · rename_i hc
              obtain ⟨c0, c1, c2, c3, c4⟩ := hc
              injection H with H; subst H
              obtain ⟨k1, k2, k3⟩ := hh (by omega)
              obtain ⟨m', hb, hm, hmc, _, hmn⟩ := bounds (len := n) (cap := c) (m := c) (dm := c) h1 h2 rfl rfl (fun _ => by omega) (fun h => absurd rfl h) c2 c3 (by omega)
              have := hmn rfl; subst this
              refine ⟨_, γ, by rw [ex]; exact run_slice hu hd hb, RV_sl.2 ⟨I, hI, hv, _, _, rfl, fun _ => ⟨by omega, by omega, fun hpos => ?_⟩⟩, S⟩
              obtain ⟨b, hbk, rfl⟩ := k3 (by omega)
              refine ⟨b, hbk, ?_⟩
              rw [if_neg (by omega)]
              have hwI : I.w = P.cellsOf e := by simp only [hbk] at q4; rw [← q4.1, c1]
              simp [add_none, hwI, Nat.add_mul]
            · cases H
          | some mx =>
            cases h3 : natI (ev E sl mx) with
            | none => simp [hY, h1, h2, show evo E sl (some mx) = some (ev E sl mx) from rfl, h3, slO] at H
            | some m =>
              simp only [hY, h1, h2, show evo E sl (some mx) = some (ev E sl mx) from rfl, Option.map_some, h3, slO] at H
              split at H
              · rename_i hc
                obtain ⟨c0, c1, c2, c3, c4, c5, c6⟩ := hc
                injection H with H; subst H
                obtain ⟨k1, k2, k3⟩ := hh (by omega)
                obtain ⟨m', hb, hm, hmc, hms, _⟩ := bounds (len := n) (cap := c) (m := m) (dm := 0) h1 h2 (by simpa only [evo, optI] using h3) rfl (fun h => by cases h) (fun _ => by omega) c2 c3 c5
                have := hms (by simp); subst this
                have hfz : FrzOf ob [(o, { Y with fro := true })] := by
                  intro o' x' h
                  simp only [getO] at h
                  split at h
                  · rename_i e; subst e; injection h with h; exact ⟨Y, hY, h.symm⟩
                  · cases h
                obtain ⟨M, S1⟩ := S.frz hfz
                refine ⟨_, _, by rw [ex]; exact run_slice hu hd hb, RV_l.2 ⟨if m.toNat = l.toNat then ad else ad.map (·.add (l.toNat * P.cellsOf e)), m.toNat - l.toNat, ?_, ?_, ?_⟩, S1⟩
                · congr 1; simp only [List.length_drop, List.length_take]; omega
                · simp only [List.length_drop, List.length_take]; omega
                · rcases Nat.lt_or_ge l.toNat h.toNat with hlt | hge
                  · right
                    obtain ⟨b, hbk, rfl⟩ := k3 (by omega)
                    simp only [hbk] at q4
                    obtain ⟨w1, cs, w2, w3, w4⟩ := q4
                    replace w2 := (w2.cells (by first | exact .inr (by assumption) | exact .inl (fun e0 => by simp_all) | exact .inl (fun e0 => by rw [e0] at *; simp at *; omega))).2
                    have hwI : I.w = P.cellsOf e := by rw [← w1, c1]
                    rcases w4 with ⟨_, w4⟩ | ⟨hp, _⟩
                    · refine ⟨b, lo' * I.w + l.toNat * P.cellsOf e, P.cellsOf e, cs, ?_, ⟨.inr ⟨o, _, I, by simp [getO]; rfl, hI, hbk⟩, fun _ => blk_gn S hI hbk⟩, w2.row, ?_⟩
                      · rw [if_neg (by omega)]; simp [add_none]
                      · rw [← hwI]
                        refine part_row ?_
                        have := PEls_sub (PEls_mono (fun b' h => ⟨⟨.inl h.1, h.2⟩, rfl⟩ : ∀ b', γ.q Y.g b' → (γ.frz [(o, { Y with fro := true })]).q Y.g b' ∧ w.heap[b']? = w.heap[b']?) _ _ _ _ w4) lo' (Y.els.length - lo')
                        rw [List.take_of_length_le (by simp), Nat.zero_add] at this
                        exact this
                    · rw [c4] at hp; cases hp
                  · left; apply List.eq_nil_of_length_eq_zero; simp only [List.length_drop, List.length_take]; omega
              · cases H
  · rename_i w0 o off lo' n e1 e2 e3
    injection e1 with e1; subst e1
    rw [e2] at hx
    split at H
    · rename_i hw1
      have hmx' : mx = none := by cases mx with
        | none => rfl
        | some m => simp [evo] at e3
      subst hmx'
      cases h1 : optI (evo E sl lo) 0 with
      | none => simp [h1, slB] at H
      | some l =>
        cases h2 : optI (evo E sl hi) n with
        | none => simp [h1, h2, slB] at H
        | some h =>
          simp only [h1, h2, slB] at H
          split at H
          · rename_i hc
            obtain ⟨c1, c2, c3⟩ := hc
            injection H with H; subst H
            obtain ⟨I, hI, ad, c, ex, hn, hh⟩ := RV_bs.1 hx
            obtain ⟨m', hb, hm, hmc, _, hmn⟩ := bounds (len := n) (cap := c) (m := c) (dm := c) h1 h2 rfl rfl (fun _ => by omega) (fun h => absurd rfl h) c1 c2 (by omega)
            have := hmn rfl; subst this
            refine ⟨_, γ, by rw [ex]; exact run_slice hu hd hb, RV_bs.2 ⟨I, hI, if m' = l.toNat then ad else ad.add (l.toNat * P.cellsOf e), m' - l.toNat, ?_, by omega, fun e0 hpos => ?_⟩, S⟩
            · split <;> rfl
            · obtain ⟨b, hbk, rfl⟩ := hh e0 (by omega)
              refine ⟨b, hbk, ?_⟩
              rw [if_neg (by omega), add_none, hw1]; simp [Nat.add_assoc]
          · cases H
    · cases H
  all_goals first
    | (rename_i e1 _; cases e1; done)
    | (rename_i e1 _ _; cases e1; done)
    | cases H
theorem slcS_ok {t : TypeId} {x : Operand} {lo hi mx : Option Operand} {r : Up} (hmx : (mx.isSome && hi.isNone) = false) (hu : P.underlying t = some .string)
    (H : slc ob .str (ev E sl x) (evo E sl lo) (evo E sl hi) (evo E sl mx) = some r) :
    ∃ (y : Value) (γ' : Gh), (Instr.sliceAt t (a.eval x) (lo.map a.eval) (hi.map a.eval) (mx.map a.eval)).run P w = .ok y w ∧ RV C.fid γ' w.heap y r.1 ∧ St C γ' w a.tmps sl (r.2 ++ ob) := by
  have hx := ev_ok hE hG S x
  unfold slc at H
  split at H
  all_goals first
    | (rename_i e1 _; cases e1; done)
    | (rename_i e1 _ _; cases e1; done)
    | skip
  · rename_i z e1 e2 e3
    rw [e2] at hx
    have hmx' : mx = none := by cases mx with
      | none => rfl
      | some m => simp [evo] at e3
    subst hmx'
    cases h1 : optI (evo E sl lo) 0 with
    | none => simp [h1, slS] at H
    | some l =>
      cases h2 : optI (evo E sl hi) z.length with
      | none => simp [h1, h2, slS] at H
      | some h =>
        simp only [h1, h2, slS] at H
        split at H
        · rename_i hc
          obtain ⟨c1, c2, c3⟩ := hc
          injection H with H; subst H
          obtain ⟨s, ex, hs⟩ := RV_s.1 hx
          have hsz : s.size = z.length := by rw [← hs, Array.length_toList]; rfl
          have g1 := optI_ok hE hG S h1
          have g2 := optI_ok hE hG S h2
          have hb := run_bounds2 (P := P) (w := w) (b := false) (len := s.size) (cap := s.size) g1 (by rw [hsz]; exact g2) c1 c2 (by rw [hsz]; exact c3)
          refine ⟨_, γ, by rw [ex]; simp [Instr.sliceAt, Instr.slice, run_underlying' hu, hb]; rfl, RV_s.2 ⟨_, rfl, ?_⟩, S⟩
          rw [← hs, List.drop_take]
          simp
        · cases H
  · cases H
theorem slcA_ok {t e : TypeId} {n : Nat} {x : Operand} {lo hi mx : Option Operand} {r : Up} (hmx : (mx.isSome && hi.isNone) = false) (hu : P.underlying t = some (.array n e)) (h1c : P.cellsOf e = 1)
    (H : slc ob (.arr n) (ev E sl x) (evo E sl lo) (evo E sl hi) (evo E sl mx) = some r) :
    ∃ (y : Value) (γ' : Gh), (Instr.sliceAt t (a.eval x) (lo.map a.eval) (hi.map a.eval) (mx.map a.eval)).run P w = .ok y w ∧ RV C.fid γ' w.heap y r.1 ∧ St C γ' w a.tmps sl (r.2 ++ ob) := by
  have hx := ev_ok hE hG S x
  unfold slc at H
  split at H
  all_goals first
    | (rename_i e1 _; cases e1; done)
    | (rename_i e1 _ _; cases e1; done)
    | skip
  · rename_i n' o off e1 e2 e3
    injection e1 with e1; subst e1
    rw [e2] at hx
    have hmx' : mx = none := by cases mx with
      | none => rfl
      | some m => simp [evo] at e3
    subst hmx'
    have hi0 : ∃ i, P.info? e = some i := by
      cases hi : P.info? e with
      | some i => exact ⟨i, rfl⟩
      | none => simp [Program.cellsOf, hi] at h1c
    obtain ⟨i0, hi0⟩ := hi0
    have hsz : i0.size = 1 := by simpa [Program.cellsOf, hi0] using h1c
    cases h1 : optI (evo E sl lo) 0 with
    | none => simp [h1, slB] at H
    | some l =>
      cases h2 : optI (evo E sl hi) n with
      | none => simp [h1, h2, slB] at H
      | some h =>
        simp only [h1, h2, slB] at H
        split at H
        · rename_i hc
          obtain ⟨c1, c2, c3⟩ := hc
          injection H with H; subst H
          obtain ⟨I, hI, hv, ad, ex, hh⟩ := RV_p.1 hx
          have g1 := optI_ok hE hG S h1
          have g2 := optI_ok hE hG S h2
          have hb := run_bounds2 (P := P) (w := w) (b := false) (len := n) (cap := n) g1 g2 c1 c2 c3
          refine ⟨.slice (some (if n = l.toNat then ad else ad.add l.toNat)) (h.toNat - l.toNat) (n - l.toNat), γ, by rw [ex]; simp [Instr.sliceAt, Instr.sureAddr, run_underlying' hu, sizeOf, typeInfo, hi0, hsz, hb], RV_bs.2 ⟨I, hI, _, _, rfl, by omega, fun e0 hpos => ?_⟩, S⟩
          obtain ⟨b, hbk, rfl⟩ := hh (by omega)
          refine ⟨b, hbk, ?_⟩
          rw [if_neg (by omega), add_none]; simp
        · cases H
  · cases H
end
end
section
open Go
section
variable {h : Array Obj} {q q' : Nat → Prop} {cs cs' : Array Value}
theorem PEls_at {w' : Nat} {l : List (List PV)} {off off' : Nat} (H : ∀ i x, i < l.length * w' → cs[off + i]? = some x → cs'[off' + i]? = some x) (R : PEls h q cs w' off l) : PEls h q cs' w' off' l :=
  PEls_of fun i x hx => by
    have := PEls_get R i x hx
    have hi : i < l.length := (List.getElem?_eq_some_iff.1 hx).1
    refine ⟨this.1, PCells_at (fun j y hj hy => ?_) this.2⟩
    rw [this.1] at hj
    have hm := Nat.mul_le_mul_right w' (show i + 1 ≤ l.length by omega)
    rw [Nat.succ_mul] at hm
    have := H (i * w' + j) y (by omega) (by rw [← Nat.add_assoc]; exact hy)
    rwa [← Nat.add_assoc] at this
theorem PEls_app {w' : Nat} : ∀ {a b : List (List PV)} {off : Nat}, PEls h q cs w' off (a ++ b) ↔ PEls h q cs w' off a ∧ PEls h q cs w' (off + a.length * w') b
  | [], b, off => by simp [PEls]
  | x :: r, b, off => by
    simp only [List.cons_append, PEls, List.length_cons, PEls_app (a := r), and_assoc, Nat.succ_mul]
    rw [show off + (r.length * w' + w') = off + w' + r.length * w' by omega]
theorem PAt_flat {v : PV} {off : Nat} (hf : flat v = true) (H : PAt h q cs off v) : PAt h q' cs off v := by
  cases v <;> simp only [flat, Bool.false_eq_true] at hf <;> simpa only [PAt] using H
theorem PCells_flat : ∀ {l : List PV} {off : Nat}, flats l = true → PCells h q cs off l → PCells h q' cs off l
  | [], _, _, _ => by simp only [PCells]
  | v :: r, off, hf, H => by
    simp only [flats, Bool.and_eq_true] at hf
    simp only [PCells] at H ⊢
    exact ⟨PAt_flat hf.1 H.1, PCells_flat hf.2 H.2⟩
theorem PEls_flat : ∀ {l : List (List PV)} {w' off : Nat}, flatEls l = true → PEls h q cs w' off l → PEls h q' cs w' off l
  | [], _, _, _, _ => by simp only [PEls]
  | x :: r, w', off, hf, H => by
    simp only [flatEls, Bool.and_eq_true] at hf
    simp only [PEls] at H ⊢
    exact ⟨H.1, PCells_flat hf.1 H.2.1, PEls_flat hf.2 H.2.2⟩
theorem PEls_w {w1 w2 : Nat} {l : List (List PV)} {off : Nat} (hw : allW w2 l = true) (hne : l ≠ []) (H : PEls h q cs w1 off l) : w1 = w2 := by
  cases l with
  | nil => exact absurd rfl hne
  | cons x r =>
    simp only [PEls] at H
    simp only [allW, Bool.and_eq_true, beq_iff_eq] at hw
    rw [← H.1, hw.1]
end
section
variable {P : Program} {E : Env} {C : Ctx} {γ : Gh} {w : World} {tmps : Array Value} {sl : SL} {ob : OB}
theorem St.rep (S : St C γ w tmps sl ob) {o : Nat} {x x' : Obj'} {i i' : HI} (hx : getO ob o = some x) (hf : x.fro = false) (hi : γ.mu o = some i) (hver : i' = i ∨ i.ver < i'.ver) {w' : World}
    (hq : ∀ b, γ.im b → w'.heap[b]? = w.heap[b]?) (hother : ∀ o' j b, o' ≠ o → γ.mu o' = some j → j.blk = some b → w'.heap[b]? = w.heap[b]?) (hchg : Chg (fun b => C.A b ∨ C.w0.heap.size ≤ b) w w')
    (hv : x'.ver = i'.ver) (hcap : ∀ c, x'.cap = some c → i'.tot = c) (hlen : x'.els.length ≤ i'.tot) (hp : x'.pu = true)
    (hb : match i'.blk with
      | none => i'.tot = 0
      | some b => x'.w = i'.w ∧ (i.blk = some b ∨ w.heap.size ≤ b) ∧ ∃ cs, ownAt w'.heap b cs ∧ i'.tot * i'.w ≤ cs.size ∧ PEls w.heap (γ.q x'.g) cs i'.w 0 x'.els) (hmp : mpo x' = none := by first | rfl | assumption | exact mpo_pu (by assumption) | (unfold mpo; split <;> rfl)) :
    St C (γ.set o i') w' tmps sl ([(o, x')] ++ ob) := by
  have hset : ∀ o', o' ≠ o → (γ.set o i').mu o' = γ.mu o' := fun o' ho => by simp [Gh.set, ho]
  have hseto : (γ.set o i').mu o = some i' := by simp [Gh.set]
  have hmv : ∀ g b, γ.q g b → (γ.set o i').q g b ∧ w'.heap[b]? = w.heap[b]? := fun g b h => ⟨h, hq b h.1⟩
  refine (S.change (γ' := γ.set o i') (u := [(o, x')]) ?_ ?_ (fun b h => ⟨h, hq b h⟩) rfl ?_ ?_ ?_ (fun b h => .inl h) hchg).2.2
  · intro o' ho
    simp only [getO] at ho
    split at ho
    · cases ho
    · rename_i h; exact hset o' (Ne.symm h)
  · intro o' j hj
    by_cases ho : o' = o
    · subst ho
      rw [hi] at hj; injection hj with hj; subst hj
      exact ⟨i', hseto, hver⟩
    · exact ⟨j, by rw [hset o' ho]; exact hj, .inl rfl⟩
  · intro o' j b ho hj hb'
    simp only [getO] at ho
    split at ho
    · cases ho
    · rename_i h; exact ⟨hother o' j b (Ne.symm h) hj hb', id⟩
  · intro o' y hy
    simp only [getO] at hy
    split at hy
    · rename_i e; subst e
      injection hy with hy; subst hy
      refine ⟨i', hseto, ⟨hv, hcap, hlen, ?_⟩, fun b hb' => ?_⟩
      · cases hbk : i'.blk with
        | none => simpa only [hbk] using hb
        | some b =>
          simp only [hbk] at hb ⊢
          obtain ⟨h1, _, cs, h2, h3, h4⟩ := hb
          exact ⟨h1, cs, .of hmp h2, h3, .inl ⟨hp, PEls_mono (hmv _) _ _ _ _ h4⟩⟩
      · simp only [hb'] at hb
        obtain ⟨_, hb, _⟩ := hb
        refine ⟨?_, fun _ him => ?_, fun o' j h1 h2 => ?_, ?_⟩
        · rcases hb with hb | hb
          · exact S.own o i b hi hb
          · exact .inr (Nat.le_trans S.chg.size hb)
        · rcases hb with hb | hb
          · exact S.unf o x i b hx hf hi hb him
          · have := S.lt b him; omega
        · by_cases ho : o' = o
          · exact ho
          · rw [hset o' ho] at h1
            rcases hb with hb | hb
            · exact S.inj o' o j i b h1 hi h2 hb
            · have := blk_lt S h1 h2; omega
        · rcases hb with hb | hb
          · exact S.place _ i b hi hb
          · exact .inr (S.fresh _ (Nat.le_trans S.chg.size hb))
    · cases hy
  · intro b him
    have := S.lt b him; have := hchg.size; omega
def SrcR (γ : Gh) (h : Array Obj) (x : Value) (g : Bool) (ys : List (List PV)) : Prop :=
  SliceR γ h x g ys ∨ ∃ s : ByteArray, x = .string s ∧ ys = s.data.toList.map fun c => [PV.i .u8 c.toNat]
theorem cont_ok {a : Act} (S : St C γ w a.tmps sl ob) {x : Value} {xv : PV} {r : Bool × List (List PV)} (hx : RV C.fid γ w.heap x xv) (H : cont ob xv = some r) : SrcR γ w.heap x r.1 r.2 := by
  unfold cont at H
  split at H
  · injection H with H; subst H
    obtain ⟨s, e, hs⟩ := RV_s.1 hx
    exact .inr ⟨s, e, by rw [hs]⟩
  · exact .inl (contL_ok S hx H)
theorem src_ok {x : Value} {g : Bool} {ys : List (List PV)} {size : Nat} (h0 : 0 < size) (H : SrcR γ w.heap x g ys) (hw : allW size ys = true) : (Builtin.lenOf x).run P w = .ok ys.length w ∧
    ∀ n, n ≤ ys.length → ∃ arr, (Builtin.firstCells size n x).run P w = .ok arr w ∧ arr.size = n * size ∧ PEls w.heap (γ.q g) arr size 0 (ys.take n) := by
  rcases H with ⟨a, c, rfl, hc, H⟩ | ⟨s, rfl, rfl⟩
  · refine ⟨by simp [Builtin.lenOf], fun n hn => ?_⟩
    rcases Nat.eq_zero_or_pos n with rfl | hpos
    · refine ⟨#[], ?_, by simp, by simp only [List.take_zero, PEls]⟩
      cases a with
      | none => simp [Builtin.firstCells]
      | some ad => simp [Builtin.firstCells, loadCells, loadCellsFrom]
    · rcases H with rfl | ⟨b, o, w', cs, rfl, hrow, hE⟩
      · simp at hn; omega
      · have hw' : w' = size := PEls_w hw (fun e => by subst e; simp at hn; omega) hE
        subst hw'
        have hlt : o + n * w' ≤ cs.size := by
          · have hn1 : ys[n - 1]? = some (ys[n - 1]'(by omega)) := List.getElem?_eq_getElem (by omega)
            have h1 := PEls_get hE (n - 1) _ hn1
            have h2 := PCells_there h1.2 (w' - 1) (by rw [h1.1]; omega)
            have h3 : (n - 1) * w' + w' = n * w' := by rw [← Nat.succ_mul]; congr 1; omega
            omega
        refine ⟨cs.extract o (o + n * w'), ?_, by simp; omega, ?_⟩
        · simp [Builtin.firstCells, run_loadCells_rowAt hrow hlt]
        · have := PEls_sub hE 0 n
          rw [Nat.zero_mul, Nat.add_zero, List.drop_zero] at this
          refine PEls_at (fun i y hi hy => ?_) this
          simp only [List.length_take] at hi
          have : min n ys.length = n := by omega
          rw [this] at hi
          rw [Nat.zero_add, getElem?_extract' hi hlt]; exact hy
  · have hlen : s.data.toList.length = s.size := by rw [Array.length_toList]; rfl
    refine ⟨by simp [Builtin.lenOf], fun n hn => ?_⟩
    rw [List.length_map, hlen] at hn
    have hsz : ((s.extract 0 n).data.map fun b => (Value.int .u8 b.toNat)).size = n := by
      simp; omega
    rcases Nat.eq_zero_or_pos n with rfl | hpos
    · exact ⟨(s.extract 0 0).data.map fun b => (Value.int .u8 b.toNat), rfl, by rw [hsz]; simp, by simp only [List.take_zero, PEls]⟩
    · have h1 : size = 1 := by
        cases hd : s.data.toList with
        | nil => rw [hd] at hlen; simp at hlen; omega
        | cons c r =>
          rw [hd] at hw
          simp only [List.map_cons, allW, wds, wd, Bool.and_eq_true, beq_iff_eq] at hw
          exact hw.1.symm
      subst h1
      refine ⟨(s.extract 0 n).data.map fun b => (Value.int .u8 b.toNat), rfl, by rw [hsz]; simp, PEls_of fun i x hx => ?_⟩
      have hi : i < n := by
        have := (List.getElem?_eq_some_iff.1 hx).1
        simp only [List.length_take] at this; omega
      rw [List.getElem?_take_of_lt hi, List.getElem?_map] at hx
      obtain ⟨c, hc, rfl⟩ := Option.map_eq_some_iff.1 hx
      refine ⟨rfl, ?_⟩
      simp only [PCells, PAt, and_true, Nat.mul_one, Nat.zero_add]
      rw [Array.getElem?_map]
      have : (s.extract 0 n).data[i]? = some c := by
        rw [Array.getElem?_toList] at hc
        simp only [ByteArray.data_extract]
        rw [Array.getElem?_extract, if_pos (by have := (Array.getElem?_eq_some_iff.1 hc).1; omega)]
        rw [Nat.zero_add]; exact hc
      rw [this]; rfl
theorem run_append_in {at' : Array TypeId} {ty t e u : TypeId} {i : TypeInfo} {y : Value} {base : Option Addr} {n c m : Nat} {du : TypeDesc} {new : Array Value} {w' : World} (h0 : at'[0]? = some t) (h1 : at'[1]? = some u) (ht : P.underlying t = some (.slice e)) (hu : P.underlying u = some du)
    (hi : P.info? e = some i) (hz : ∀ k, du ≠ .int k) (hm : (Builtin.lenOf y).run P w = .ok m w) (hle : n + m ≤ c)
    (hnew : (Builtin.firstCells i.size m y).run P w = .ok new w) (hst : ∀ ad, base = some ad → (storeCells (ad.add (n * i.size)) new.toList).run P w = .ok () w') (hnone : base = none → w' = w) :
    (Builtin.append_ at' ty #[.slice base n c, y]).run P w = .ok (.slice base (n + m) c) w' := by
  have hz : (match du with | TypeDesc.int _ => true | _ => false) = false := by cases du <;> first | rfl | exact absurd rfl (hz _)
  cases base with
  | none =>
    have := hnone rfl; subst this
    simp [Builtin.append_, h0, h1, run_underlying' ht, run_underlying' hu, sizeOf, typeInfo, hi, hz, hm, hle, hnew]
  | some ad =>
    simp [Builtin.append_, h0, h1, run_underlying' ht, run_underlying' hu, sizeOf, typeInfo, hi, hz, hm, hle, hnew, hst ad rfl]
theorem run_append_out {at' : Array TypeId} {ty t e u : TypeId} {i : TypeInfo} {z : Value} {y : Value} {base : Option Addr} {n c m : Nat} {du : TypeDesc} {old new : Array Value} (h0 : at'[0]? = some t) (h1 : at'[1]? = some u) (ht : P.underlying t = some (.slice e)) (hu : P.underlying u = some du)
    (hi : P.info? e = some i) (hzv : i.zero = some z) (hz : ∀ k, du ≠ .int k) (hm : (Builtin.lenOf y).run P w = .ok m w) (hle : c < n + m) (hb : i.bytes ≤ 4096) (hn : n + m ≤ 4294967296)
    (hold : (Builtin.firstCells i.size n (.slice base n c)).run P w.drew = .ok old w.drew) (hnew : (Builtin.firstCells i.size m y).run P w.drew = .ok new w.drew) :
    ∃ cap, n + m ≤ cap ∧ (Builtin.append_ at' ty #[.slice base n c, y]).run P w = .ok (.slice (some ⟨w.heap.size, 0, none⟩) (n + m) cap) (w.drew.alloc (.cells (old ++ new ++ Builtin.zeroCells z.cells (cap - (n + m))) e)) := by
  have hz : (match du with | TypeDesc.int _ => true | _ => false) = false := by cases du <;> first | rfl | exact absurd rfl (hz _)
  have hn' : ¬ (n + m ≤ c) := by omega
  have h63 : ¬ (9223372036854775807 < ((n : Int) + (m : Int))) := by omega
  have hfit : Builtin.nextslicecap (n + m) c * i.bytes ≤ 281474976710656 := growslice_fits hle (by
    have := Nat.mul_le_mul hn hb; omega)
  have h48 : ¬ (281474976710656 < Builtin.nextslicecap (n + m) c * i.bytes) := by omega
  refine ⟨grownCap w (n + m) c e, grownCap_ge w (n + m) c e, ?_⟩
  simp [Builtin.append_, h0, h1, run_underlying' ht, run_underlying' hu, sizeOf, typeInfo, zeroValue, hi, hzv, hz, hm, hn', h63, h48, Question.forced, hold, hnew, newRow, grownCap]
theorem app_els {g gy : Bool} {xs ys : List (List PV)} {c1 c2 : Array Value} {w' : Nat} (h1 : PEls w.heap (γ.q g) c1 w' 0 xs) (h2 : PEls w.heap (γ.q gy) c2 w' 0 ys) :
    PEls w.heap (γ.q (g && (gy || flatEls ys))) c1 w' 0 xs ∧ PEls w.heap (γ.q (g && (gy || flatEls ys))) c2 w' 0 ys := by
  refine ⟨PEls_mono (fun b h => ⟨⟨h.1, fun e => h.2 (by simp at e; exact e.1)⟩, rfl⟩) _ _ _ _ h1, ?_⟩
  cases hf : flatEls ys with
  | true => exact PEls_flat hf h2
  | false => exact PEls_mono (fun b h => ⟨⟨h.1, fun e => h.2 (by simp at e; exact e.2)⟩, rfl⟩) _ _ _ _ h2
theorem row_cat {h : Array Obj} {q : Nat → Prop} {c1 c2 c3 : Array Value} {w' : Nat} {xs ys : List (List PV)} (h1 : PEls h q c1 w' 0 xs) (h2 : PEls h q c2 w' 0 ys) (hs : c1.size = xs.length * w') (hs2 : c2.size = ys.length * w') :
    PEls h q (c1 ++ c2 ++ c3) w' 0 (xs ++ ys) := by
  rw [PEls_app]
  refine ⟨PEls_at (fun i x hi hx => ?_) h1, PEls_at (fun i x hi hx => ?_) h2⟩
  · rw [Nat.zero_add] at hx ⊢
    rw [Array.append_assoc, Array.getElem?_append_left (by omega)]; exact hx
  · rw [Nat.zero_add] at hx
    rw [Nat.zero_add, Array.getElem?_append_left (by simp; omega), Array.getElem?_append_right (by omega), hs, Nat.add_sub_cancel_left]
    exact hx
theorem row_put {h : Array Obj} {q : Nat → Prop} {cs cs' new : Array Value} {w' n : Nat} {xs ys : List (List PV)} (h1 : PEls h q cs w' 0 xs) (h2 : PEls h q new w' 0 ys) (hn : n + ys.length ≤ xs.length)
    (hsame : ∀ k v, k < n * w' ∨ (n + ys.length) * w' ≤ k → cs[k]? = some v → cs'[k]? = some v) (hput : ∀ k v, k < ys.length * w' → new[k]? = some v → cs'[n * w' + k]? = some v) :
    PEls h q cs' w' 0 (xs.take n ++ (ys ++ xs.drop (n + ys.length))) := by
  rw [PEls_app, PEls_app]
  have hl : (xs.take n).length = n := by simp; omega
  rw [hl]
  have t1 := PEls_sub h1 0 n
  have t2 := PEls_sub h1 (n + ys.length) (xs.length - (n + ys.length))
  rw [List.drop_zero, Nat.zero_mul] at t1
  rw [List.take_of_length_le (by simp)] at t2
  refine ⟨PEls_at (fun i x hi hx => ?_) t1, PEls_at (fun i x hi hx => ?_) h2, PEls_at (fun i x hi hx => ?_) t2⟩
  · rw [hl] at hi
    rw [Nat.zero_add] at hx ⊢
    exact hsame _ _ (.inl hi) (by simpa using hx)
  · rw [Nat.zero_add] at hx ⊢; exact hput _ _ hi hx
  · rw [Nat.zero_add] at hx ⊢
    rw [← Nat.add_mul]
    exact hsame _ _ (.inr (by omega)) hx
theorem row_put2 {h : Array Obj} {q : Nat → Prop} {cs cs' new : Array Value} {w' n : Nat} {xs ys : List (List PV)} (h1 : PEls h q cs w' 0 xs) (h2 : PEls h q new w' 0 ys) (hn : n ≤ xs.length)
    (hsame : ∀ k v, k < n * w' ∨ (n + ys.length) * w' ≤ k → cs[k]? = some v → cs'[k]? = some v) (hput : ∀ k v, k < ys.length * w' → new[k]? = some v → cs'[n * w' + k]? = some v) :
    PEls h q cs' w' 0 (xs.take n ++ ys) := by
  rw [PEls_app]
  have hl : (xs.take n).length = n := by simp; omega
  rw [hl]
  have t1 := PEls_sub h1 0 n
  rw [List.drop_zero, Nat.zero_mul] at t1
  refine ⟨PEls_at (fun i x hi hx => ?_) t1, PEls_at (fun i x hi hx => ?_) h2⟩
  · rw [hl] at hi
    rw [Nat.zero_add] at hx ⊢
    exact hsame _ _ (.inl hi) (by simpa using hx)
  · rw [Nat.zero_add] at hx ⊢; exact hput _ _ hi hx
end
end
end Go.Proofs.Ytnkapponcbgbhaa
