/-
  Parts of slices.
-/
import Derived.Test.YtcimkkcajkmfoaaDoorOpsX
set_option linter.all false
namespace Go.Proofs.YtcimkkcajkmfoaaDoor
open Go

section
variable {P : Program} {E : Env} {C : Ctx} {γ : Gh} {w : World} {a : Act} {sl : SL} {ob : OB}
def LoV (v : Option Value) (l : Int) (d : Int) : Prop := (v = none ∧ l = d) ∨ ∃ k, v = some (.int k l)
theorem run_bound {k : IntKind} {l : Int} {y : Nat} {code : BoundsCode} (h0 : 0 ≤ l) (h1 : l ≤ y) : (Instr.sliceBound (.int k l) y code).run P w = .ok l.toNat w := by
  simp [Instr.sliceBound, asIntOf, h0, h1]
theorem run_bounds2 {b : Bool} {len cap : Nat} {lo hi : Option Value} {l h : Int} (hl : LoV lo l 0) (hh : LoV hi h len) (h0 : 0 ≤ l) (h1 : l ≤ h) (h2 : h ≤ cap) :
    (Instr.sliceBounds b len cap lo hi none).run P w = .ok (l.toNat, h.toNat, cap) w := by
  unfold Instr.sliceBounds
  have e1 : (h.toNat : Int) = h := by omega
  rcases hl with ⟨rfl, rfl⟩ | ⟨k, rfl⟩ <;> rcases hh with ⟨rfl, rfl⟩ | ⟨k', rfl⟩ <;>
    simp (disch := omega) [run_bound]
theorem run_bounds3 {b : Bool} {len cap : Nat} {lo : Option Value} {k k' : IntKind} {l h m : Int} (hl : LoV lo l 0) (h0 : 0 ≤ l) (h1 : l ≤ h) (h2 : h ≤ m) (h3 : m ≤ cap) :
    (Instr.sliceBounds b len cap lo (some (.int k h)) (some (.int k' m))).run P w = .ok (l.toNat, h.toNat, m.toNat) w := by
  unfold Instr.sliceBounds
  rcases hl with ⟨rfl, rfl⟩ | ⟨k, rfl⟩ <;> simp (disch := omega) [run_bound]
theorem run_slice {t e : TypeId} {d : TypeDesc} (hu : P.underlying t = some (.slice e)) (hd : P.underlying e = some d) {ad : Option Addr} {len cap l h m : Nat} {lo hi mx : Option Value} (hb : (Instr.sliceBounds true len cap lo hi mx).run P w = .ok (l, h, m) w) :
    (Instr.sliceAt t (.slice ad len cap) lo hi mx).run P w = .ok (.slice (if m = l then ad else ad.map (·.add (l * P.cellsOf e))) (h - l) (m - l)) w := by
  simp [Instr.sliceAt, Instr.slice, run_underlying' hu, run_sizeOf' hd, hb]

theorem natI_ok {fid : Nat → Nat} {h : Array Obj} {x : Value} {v : PV} {n : Int} (hx : RV fid γ h x v) (H : natI v = some n) : ∃ k, x = .int k n := by
  unfold natI at H
  split at H
  · injection H with H; subst H; exact ⟨_, RV_i.1 hx⟩
  · cases H
variable (hE : E.fid = C.fid) (hG : E.glob = C.glob) (S : St C γ w a.tmps sl ob)
include hE hG S
theorem optI_ok {x : Option Operand} {d l : Int} (H : optI (evo E sl x) d = some l) : LoV (x.map a.eval) l d := by
  cases x with
  | none => simp only [evo, optI, Option.some.injEq] at H; exact .inl ⟨rfl, H.symm⟩
  | some x =>
    simp only [evo, optI] at H
    obtain ⟨k, e⟩ := natI_ok (ev_ok hE hG S x) H
    exact .inr ⟨k, by simp [e]⟩
omit hE hG S in
/-- The part of a row of plain data. -/
theorem part_row {q : Nat → Prop} {h : Array Obj} {cs : Array Value} {w' o l hh : Nat} {xs : List (List PV)} (H : PEls h q cs w' o xs) : PEls h q cs w' (o + l * w') ((xs.take hh).drop l) := by
  rw [List.drop_take]; exact PEls_sub H l (hh - l)
theorem slc_ok {t e : TypeId} {x : Operand} {lo hi mx : Option Operand} {r : Up} (hmx : (mx.isSome && hi.isNone) = false) (hu : P.underlying t = some (.slice e)) (hk : known P e = true)
    (H : slc ob (.slice (P.cellsOf e)) (ev E sl x) (evo E sl lo) (evo E sl hi) (evo E sl mx) = some r) :
    ∃ (y : Value) (γ' : Gh), (Instr.sliceAt t (a.eval x) (lo.map a.eval) (hi.map a.eval) (mx.map a.eval)).run P w = .ok y w ∧ RV C.fid γ' w.heap y r.1 ∧ St C γ' w a.tmps sl (r.2 ++ ob) := by
  obtain ⟨d, hd⟩ := known_some hk
  have hx := ev_ok hE hG S x
  -- the bounds
  have bounds : ∀ {dh dm l h m : Int} {len cap : Nat}, optI (evo E sl lo) 0 = some l → optI (evo E sl hi) dh = some h → optI (evo E sl mx) dm = some m → dh = len → (mx = none → m ≤ cap) → (mx ≠ none → m ≤ cap) → 0 ≤ l → l ≤ h → h ≤ m →
      ∃ m' : Nat, (Instr.sliceBounds true len cap (lo.map a.eval) (hi.map a.eval) (mx.map a.eval)).run P w = .ok (l.toNat, h.toNat, m') w ∧ m ≤ m' ∧ m' ≤ cap ∧ (mx ≠ none → m' = m.toNat) ∧ (mx = none → m' = cap) := by
    intro dh dm l h m len cap h1 h2 h3 e1 hm1 hm2 h0 hlh hhm
    have g1 := optI_ok hE hG S h1
    have g2 := optI_ok hE hG S h2
    have g3 := optI_ok hE hG S h3
    cases mx with
    | none =>
      have := hm1 rfl
      subst e1
      exact ⟨cap, run_bounds2 g1 g2 h0 hlh (by omega), by omega, by omega, fun h => absurd rfl h, fun _ => rfl⟩
    | some mx =>
      have := hm2 (by simp)
      cases hi with
      | none => simp at hmx
      | some hi =>
        rcases g2 with ⟨h, _⟩ | ⟨k, g2⟩
        · simp at h
        · rcases g3 with ⟨h, _⟩ | ⟨k', g3⟩
          · simp at h
          · simp only [Option.map_some, Option.some.injEq] at g2 g3
            refine ⟨m.toNat, ?_, by omega, by omega, fun _ => rfl, fun h => by cases h⟩
            simp only [Option.map_some, g2, g3]
            exact run_bounds3 g1 h0 hlh hhm (by omega)
  have lcase : ∀ {g : Bool} {xs : List (List PV)}, RV C.fid γ w.heap (a.eval x) (.l g xs) → allW (P.cellsOf e) xs = true → slL g xs (optI (evo E sl lo) 0) (optI (evo E sl hi) xs.length) (optI (evo E sl mx) xs.length) = some r →
      ∃ (y : Value) (γ' : Gh), (Instr.sliceAt t (a.eval x) (lo.map a.eval) (hi.map a.eval) (mx.map a.eval)).run P w = .ok y w ∧ RV C.fid γ' w.heap y r.1 ∧ St C γ' w a.tmps sl (r.2 ++ ob) := by
    intro g xs hx hW H
    cases h1 : optI (evo E sl lo) 0 with
    | none => simp [h1, slL] at H
    | some l =>
      cases h2 : optI (evo E sl hi) xs.length with
      | none => simp [h1, h2, slL] at H
      | some h =>
        cases h3 : optI (evo E sl mx) xs.length with
        | none => simp [h1, h2, h3, slL] at H
        | some m =>
          simp only [h1, h2, h3, slL] at H
          split at H
          · rename_i hc
            obtain ⟨c1, c2, c3, c4⟩ := hc
            injection H with H; subst H
            obtain ⟨ad, c, e1, hle, hE'⟩ := RV_l.1 hx
            obtain ⟨m', hb, hm, hmc, _⟩ := bounds (cap := c) h1 h2 h3 rfl (fun _ => by omega) (fun _ => by omega) c1 c2 c3
            refine ⟨_, γ, by rw [e1]; exact run_slice hu hd hb, RV_l.2 ⟨if m' = l.toNat then ad else ad.map (·.add (l.toNat * P.cellsOf e)), m' - l.toNat, ?_, ?_, ?_⟩, S⟩
            · congr 1; simp only [List.length_drop, List.length_take]; omega
            · simp only [List.length_drop, List.length_take]; omega
            · rcases hE' with hE' | ⟨b, o, w', cs, rfl, hq, hrow, hE'⟩
              · left; subst hE'; simp
              · rcases Nat.lt_or_ge l.toNat h.toNat with hlt | hge
                · right
                  have hw' : w' = P.cellsOf e := by
                    cases xs with
                    | nil => simp at c4; omega
                    | cons x0 r0 =>
                      simp only [PEls] at hE'
                      simp only [allW, Bool.and_eq_true, beq_iff_eq] at hW
                      rw [← hE'.1, hW.1]
                  subst hw'
                  refine ⟨b, o + l.toNat * P.cellsOf e, P.cellsOf e, cs, ?_, hq, hrow, part_row hE'⟩
                  rw [if_neg (by omega)]; simp [add_none]
                · left; apply List.eq_nil_of_length_eq_zero; simp only [List.length_drop, List.length_take]; omega
          · cases H
  unfold slc at H
  split at H
  · rename_i mxv w0 g xs e1 e2
    injection e1 with e1; subst e1
    split at H
    · rename_i hW; exact lcase (e2 ▸ hx) hW H
    · cases H
  · rename_i mxv w0 g xs e1 e2
    injection e1 with e1; subst e1
    split at H
    · rename_i hW; exact lcase (RV_ln.1 (e2 ▸ hx)).1 hW H
    · cases H
  · rename_i mxv w0 nl e1 e2
    rw [e2] at hx
    cases h1 : optI (evo E sl lo) 0 with
    | none => simp [h1, slE] at H
    | some l =>
      cases h2 : optI (evo E sl hi) 0 with
      | none => simp [h1, h2, slE] at H
      | some h =>
        cases h3 : optI (evo E sl mx) 0 with
        | none => simp [h1, h2, h3, slE] at H
        | some m =>
          simp only [h1, h2, h3, slE] at H
          split at H
          · rename_i hc
            obtain ⟨c1, c2, c3, c4⟩ := hc
            injection H with H; subst H
            obtain ⟨ad, e1, hn⟩ := RV_e.1 hx
            obtain ⟨m', hb, hm, hmc, _⟩ := bounds (len := 0) (cap := 0) h1 h2 h3 rfl (fun _ => by omega) (fun _ => by omega) c1 c2 c3
            have hm' : m' = 0 := by omega
            subst hm'
            refine ⟨_, γ, by rw [e1]; exact run_slice hu hd hb, RV_e.2 ⟨ad, ?_, hn⟩, S⟩
            rw [if_pos (by omega)]; congr 1 <;> omega
          · cases H
  · rename_i mxv w0 o ver lo' n e1 e2
    injection e1 with e1; subst e1
    rw [e2] at hx
    cases hY : getO ob o with
    | none => simp [hY, slO] at H
    | some Y =>
      cases h1 : optI (evo E sl lo) 0 with
      | none => simp [hY, h1, slO] at H
      | some l =>
        cases h2 : optI (evo E sl hi) n with
        | none => simp [hY, h1, h2, slO] at H
        | some h =>
          obtain ⟨I, hI, hv, ad, c, ex, hh⟩ := RV_sl.1 hx
          obtain ⟨I', hI', q1, q2, q3, q4⟩ := S.obj o Y hY
          rw [hI] at hI'; injection hI' with hI'; subst hI'
          cases mx with
          | none =>
            simp only [hY, h1, h2, show evo E sl none = none from rfl, Option.map_none, slO] at H
            split at H
            · rename_i hc
              obtain ⟨c0, c1, c2, c3, c4⟩ := hc
              injection H with H; subst H
              obtain ⟨k1, k2, k3⟩ := hh (by omega)
              obtain ⟨m', hb, hm, hmc, _, hmn⟩ := bounds (len := n) (cap := c) (m := c) (dm := c) h1 h2 rfl rfl (fun _ => by omega) (fun h => absurd rfl h) c2 c3 (by omega)
              have := hmn rfl; subst this
              refine ⟨_, γ, by rw [ex]; exact run_slice hu hd hb, RV_sl.2 ⟨I, hI, hv, _, _, rfl, fun _ => ⟨by omega, by omega, fun hpos => ?_⟩⟩, S⟩
              obtain ⟨b, hbk, rfl⟩ := k3 (by omega)
              refine ⟨b, hbk, ?_⟩
              rw [if_neg (by omega)]
              have hwI : I.w = P.cellsOf e := by simp only [hbk] at q4; rw [← q4.1, c1]
              simp [add_none, hwI, Nat.add_mul]
            · cases H
          | some mx =>
            cases h3 : natI (ev E sl mx) with
            | none => simp [hY, h1, h2, show evo E sl (some mx) = some (ev E sl mx) from rfl, h3, slO] at H
            | some m =>
              simp only [hY, h1, h2, show evo E sl (some mx) = some (ev E sl mx) from rfl, Option.map_some, h3, slO] at H
              split at H
              · rename_i hc
                obtain ⟨c0, c1, c2, c3, c4, c5, c6⟩ := hc
                injection H with H; subst H
                obtain ⟨k1, k2, k3⟩ := hh (by omega)
                obtain ⟨m', hb, hm, hmc, hms, _⟩ := bounds (len := n) (cap := c) (m := m) (dm := 0) h1 h2 (by simpa only [evo, optI] using h3) rfl (fun h => by cases h) (fun _ => by omega) c2 c3 c5
                have := hms (by simp); subst this
                have hfz : FrzOf ob [(o, { Y with fro := true })] := by
                  intro o' x' h
                  simp only [getO] at h
                  split at h
                  · rename_i e; subst e; injection h with h; exact ⟨Y, hY, h.symm⟩
                  · cases h
                obtain ⟨M, S1⟩ := S.frz hfz
                refine ⟨_, _, by rw [ex]; exact run_slice hu hd hb, RV_l.2 ⟨if m.toNat = l.toNat then ad else ad.map (·.add (l.toNat * P.cellsOf e)), m.toNat - l.toNat, ?_, ?_, ?_⟩, S1⟩
                · congr 1; simp only [List.length_drop, List.length_take]; omega
                · simp only [List.length_drop, List.length_take]; omega
                · rcases Nat.lt_or_ge l.toNat h.toNat with hlt | hge
                  · right
                    obtain ⟨b, hbk, rfl⟩ := k3 (by omega)
                    simp only [hbk] at q4
                    obtain ⟨w1, cs, w2, w3, w4⟩ := q4
                    have hwI : I.w = P.cellsOf e := by rw [← w1, c1]
                    rcases w4 with ⟨_, w4⟩ | ⟨hp, _⟩
                    · refine ⟨b, lo' * I.w + l.toNat * P.cellsOf e, P.cellsOf e, cs, ?_, ⟨.inr ⟨o, _, I, by simp [getO]; rfl, hI, hbk⟩, fun _ => blk_gn S hI hbk⟩, w2.row, ?_⟩
                      · rw [if_neg (by omega)]; simp [add_none]
                      · rw [← hwI]
                        refine part_row ?_
                        have := PEls_sub (PEls_mono (fun b' h => ⟨⟨.inl h.1, h.2⟩, rfl⟩ : ∀ b', γ.q Y.g b' → (γ.frz [(o, { Y with fro := true })]).q Y.g b' ∧ w.heap[b']? = w.heap[b']?) _ _ _ _ w4) lo' (Y.els.length - lo')
                        rw [List.take_of_length_le (by simp), Nat.zero_add] at this
                        exact this
                    · rw [c4] at hp; cases hp
                  · left; apply List.eq_nil_of_length_eq_zero; simp only [List.length_drop, List.length_take]; omega
              · cases H
  · rename_i w0 o off lo' n e1 e2 e3
    injection e1 with e1; subst e1
    rw [e2] at hx
    split at H
    · rename_i hw1
      have hmx' : mx = none := by cases mx with
        | none => rfl
        | some m => simp [evo] at e3
      subst hmx'
      cases h1 : optI (evo E sl lo) 0 with
      | none => simp [h1, slB] at H
      | some l =>
        cases h2 : optI (evo E sl hi) n with
        | none => simp [h1, h2, slB] at H
        | some h =>
          simp only [h1, h2, slB] at H
          split at H
          · rename_i hc
            obtain ⟨c1, c2, c3⟩ := hc
            injection H with H; subst H
            obtain ⟨I, hI, ad, c, ex, hn, hh⟩ := RV_bs.1 hx
            obtain ⟨m', hb, hm, hmc, _, hmn⟩ := bounds (len := n) (cap := c) (m := c) (dm := c) h1 h2 rfl rfl (fun _ => by omega) (fun h => absurd rfl h) c1 c2 (by omega)
            have := hmn rfl; subst this
            refine ⟨_, γ, by rw [ex]; exact run_slice hu hd hb, RV_bs.2 ⟨I, hI, if m' = l.toNat then ad else ad.add (l.toNat * P.cellsOf e), m' - l.toNat, ?_, by omega, fun e0 hpos => ?_⟩, S⟩
            · split <;> rfl
            · obtain ⟨b, hbk, rfl⟩ := hh e0 (by omega)
              refine ⟨b, hbk, ?_⟩
              rw [if_neg (by omega), add_none, hw1]; simp [Nat.add_assoc]
          · cases H
    · cases H
  all_goals first
    | (rename_i e1 _; cases e1; done)
    | (rename_i e1 _ _; cases e1; done)
    | cases H
theorem slcS_ok {t : TypeId} {x : Operand} {lo hi mx : Option Operand} {r : Up} (hmx : (mx.isSome && hi.isNone) = false) (hu : P.underlying t = some .string)
    (H : slc ob .str (ev E sl x) (evo E sl lo) (evo E sl hi) (evo E sl mx) = some r) :
    ∃ (y : Value) (γ' : Gh), (Instr.sliceAt t (a.eval x) (lo.map a.eval) (hi.map a.eval) (mx.map a.eval)).run P w = .ok y w ∧ RV C.fid γ' w.heap y r.1 ∧ St C γ' w a.tmps sl (r.2 ++ ob) := by
  have hx := ev_ok hE hG S x
  unfold slc at H
  split at H
  all_goals first
    | (rename_i e1 _; cases e1; done)
    | (rename_i e1 _ _; cases e1; done)
    | skip
  · rename_i z e1 e2 e3
    rw [e2] at hx
    have hmx' : mx = none := by cases mx with
      | none => rfl
      | some m => simp [evo] at e3
    subst hmx'
    cases h1 : optI (evo E sl lo) 0 with
    | none => simp [h1, slS] at H
    | some l =>
      cases h2 : optI (evo E sl hi) z.length with
      | none => simp [h1, h2, slS] at H
      | some h =>
        simp only [h1, h2, slS] at H
        split at H
        · rename_i hc
          obtain ⟨c1, c2, c3⟩ := hc
          injection H with H; subst H
          obtain ⟨s, ex, hs⟩ := RV_s.1 hx
          have hsz : s.size = z.length := by rw [← hs, Array.length_toList]; rfl
          have g1 := optI_ok hE hG S h1
          have g2 := optI_ok hE hG S h2
          have hb := run_bounds2 (P := P) (w := w) (b := false) (len := s.size) (cap := s.size) g1 (by rw [hsz]; exact g2) c1 c2 (by rw [hsz]; exact c3)
          refine ⟨_, γ, by rw [ex]; simp [Instr.sliceAt, Instr.slice, run_underlying' hu, hb]; rfl, RV_s.2 ⟨_, rfl, ?_⟩, S⟩
          rw [← hs, List.drop_take]
          simp
        · cases H
  · cases H
theorem slcA_ok {t e : TypeId} {n : Nat} {x : Operand} {lo hi mx : Option Operand} {r : Up} (hmx : (mx.isSome && hi.isNone) = false) (hu : P.underlying t = some (.array n e)) (h1c : P.cellsOf e = 1)
    (H : slc ob (.arr n) (ev E sl x) (evo E sl lo) (evo E sl hi) (evo E sl mx) = some r) :
    ∃ (y : Value) (γ' : Gh), (Instr.sliceAt t (a.eval x) (lo.map a.eval) (hi.map a.eval) (mx.map a.eval)).run P w = .ok y w ∧ RV C.fid γ' w.heap y r.1 ∧ St C γ' w a.tmps sl (r.2 ++ ob) := by
  have hx := ev_ok hE hG S x
  unfold slc at H
  split at H
  all_goals first
    | (rename_i e1 _; cases e1; done)
    | (rename_i e1 _ _; cases e1; done)
    | skip
  · rename_i n' o off e1 e2 e3
    injection e1 with e1; subst e1
    rw [e2] at hx
    have hmx' : mx = none := by cases mx with
      | none => rfl
      | some m => simp [evo] at e3
    subst hmx'
    have hi0 : ∃ i, P.info? e = some i := by
      cases hi : P.info? e with
      | some i => exact ⟨i, rfl⟩
      | none => simp [Program.cellsOf, hi] at h1c
    obtain ⟨i0, hi0⟩ := hi0
    have hsz : i0.size = 1 := by simpa [Program.cellsOf, hi0] using h1c
    cases h1 : optI (evo E sl lo) 0 with
    | none => simp [h1, slB] at H
    | some l =>
      cases h2 : optI (evo E sl hi) n with
      | none => simp [h1, h2, slB] at H
      | some h =>
        simp only [h1, h2, slB] at H
        split at H
        · rename_i hc
          obtain ⟨c1, c2, c3⟩ := hc
          injection H with H; subst H
          obtain ⟨I, hI, hv, ad, ex, hh⟩ := RV_p.1 hx
          have g1 := optI_ok hE hG S h1
          have g2 := optI_ok hE hG S h2
          have hb := run_bounds2 (P := P) (w := w) (b := false) (len := n) (cap := n) g1 g2 c1 c2 c3
          refine ⟨.slice (some (if n = l.toNat then ad else ad.add l.toNat)) (h.toNat - l.toNat) (n - l.toNat), γ, by rw [ex]; simp [Instr.sliceAt, Instr.sureAddr, run_underlying' hu, sizeOf, typeInfo, hi0, hsz, hb], RV_bs.2 ⟨I, hI, _, _, rfl, by omega, fun e0 hpos => ?_⟩, S⟩
          obtain ⟨b, hbk, rfl⟩ := hh (by omega)
          refine ⟨b, hbk, ?_⟩
          rw [if_neg (by omega), add_none]; simp
        · cases H
  · cases H
end
end Go.Proofs.YtcimkkcajkmfoaaDoor
