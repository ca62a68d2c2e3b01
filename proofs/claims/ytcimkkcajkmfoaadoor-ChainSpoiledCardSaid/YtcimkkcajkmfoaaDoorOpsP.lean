/-
  Operations that make no memory and change none: what they yield is what the reading says.
-/
import Derived.Test.YtcimkkcajkmfoaaDoorSeg
set_option linter.all false
namespace Go.Proofs.YtcimkkcajkmfoaaDoor
open Go

section
variable {P : Program}
theorem known_some {t : TypeId} (h : known P t = true) : ∃ d, P.underlying t = some d := by
  simpa [known, Option.isSome_iff_exists] using h
theorem info_of {t : TypeId} {d : TypeDesc} (h : P.underlying t = some d) : ∃ i, P.info? t = some i := by
  cases hi : P.info? t with
  | some i => exact ⟨i, rfl⟩
  | none => simp [Program.underlying, hi] at h
theorem run_underlying' {t : TypeId} {d : TypeDesc} (h : P.underlying t = some d) (w : World) : (underlying t).run P w = .ok d w := by
  simp [underlying, h]
theorem run_sizeOf' {t : TypeId} {d : TypeDesc} (h : P.underlying t = some d) (w : World) : (sizeOf t).run P w = .ok (P.cellsOf t) w := by
  obtain ⟨i, hi⟩ := info_of h
  simp [sizeOf, typeInfo, hi, Program.cellsOf]
theorem run_isAgg' {t : TypeId} {d : TypeDesc} (h : P.underlying t = some d) (w : World) : (isAgg t).run P w = .ok (aggT P t) w := by
  simp only [isAgg, Sem.run_bind, run_underlying' h, Result.andThen_ok, aggT, h]
  cases d <;> rfl
end

section
variable {fid : Nat → Nat} {γ : Gh} {h : Array Obj}
@[simp] theorem RV_b {x : Value} {v : Bool} : RV fid γ h x (.b v) ↔ x = .bool v := by simp [RV, RAt]
@[simp] theorem RV_i {x : Value} {k : IntKind} {n : Int} : RV fid γ h x (.i k n) ↔ x = .int k n := by simp [RV, RAt]
theorem RV_s {x : Value} {l : List UInt8} : RV fid γ h x (.s l) ↔ ∃ s, x = .string s ∧ s.data.toList = l := by simp [RV, RAt]
theorem RV_np {x : Value} : RV fid γ h x .np ↔ x = .pointer none := by simp [RV, RAt]
theorem RV_ub {x : Value} : RV fid γ h x .ub ↔ ∃ b, x = .bool b := by simp [RV, RAt]
theorem RV_b_or {b : Bool} {v : PV} (hv : v = .b b ∨ v = .ub) : RV fid γ h (.bool b) v := by
  rcases hv with rfl | rfl
  · simp [RV, RAt]
  · exact RV_ub.2 ⟨b, rfl⟩
theorem RV_nf {x : Value} : RV fid γ h x .nf ↔ x = .nilFunc := by simp [RV, RAt]
theorem RV_un {x : Value} : RV fid γ h x .un := by simp [RV, RAt]
theorem RV_agg {x : Value} {xs : List PV} : RV fid γ h x (.agg xs) ↔ ∃ arr, x = .agg arr ∧ arr.size = wds xs ∧ RCells fid γ h arr 0 xs := by simp [RV, RAt]
theorem RV_tup {x : Value} {xs : List PV} : RV fid γ h x (.tup xs) ↔ ∃ arr, x = .tuple arr ∧ arr.size = xs.length ∧ RL fid γ h arr 0 xs := by simp [RV, RAt]
theorem RV_fn {x : Value} {f : Nat} {a b : List PV} : RV fid γ h x (.fn f a b) ↔ ∃ f0 a1 a2, x = .func (.func f0) a1 a2 ∧ fid f0 = f ∧ (a1.size = a.length ∧ RL fid γ h a1 0 a) ∧ a2.size = b.length ∧ RL fid γ h a2 0 b := by simp [RV, RAt]
theorem RV_p {x : Value} {o ver j o' : Nat} {bi : Option Nat} : RV fid γ h x (.p o ver j o' bi) ↔ ∃ i, γ.mu o = some i ∧ ver ≤ i.ver ∧ ∃ a, x = .pointer (some a) ∧ (ver = i.ver → ∃ b, i.blk = some b ∧ a = ⟨b, j * i.w + o' + bi.getD 0, none⟩) := by simp [RV, RAt]
theorem RV_q {x : Value} {g : Bool} {xs : List PV} {bi : Option Nat} : RV fid γ h x (.q g xs bi) ↔ ∃ b o cs', x = .pointer (some ⟨b, o + bi.getD 0, none⟩) ∧ γ.q g b ∧ rowAt h b cs' ∧ PCells h (γ.q g) cs' o xs := by simp [RV, RAt]
theorem RV_l {x : Value} {g : Bool} {xs : List (List PV)} : RV fid γ h x (.l g xs) ↔ ∃ a c, x = .slice a xs.length c ∧ xs.length ≤ c ∧ (xs = [] ∨ ∃ b o w cs', a = some ⟨b, o, none⟩ ∧ γ.q g b ∧ rowAt h b cs' ∧ PEls h (γ.q g) cs' w o xs) := by simp [RV, RAt, PAt]
theorem RV_ln {x : Value} {g : Bool} {xs : List (List PV)} : RV fid γ h x (.ln g xs) ↔ RV fid γ h x (.l g xs) ∧ ∃ a n c, x = .slice (some a) n c := by simp [RV, RAt]
theorem RV_e {x : Value} {nil : Bool} : RV fid γ h x (.e nil) ↔ ∃ a, x = .slice a 0 0 ∧ (a = none ↔ nil = true) := by simp [RV, RAt]
theorem RV_sl {x : Value} {o ver lo n : Nat} : RV fid γ h x (.sl o ver lo n) ↔ ∃ i, γ.mu o = some i ∧ ver ≤ i.ver ∧ ∃ a c, x = .slice a n c ∧ (ver = i.ver → HSl i lo n a c) := by simp [RV, RAt]
theorem RV_bs {x : Value} {o o' lo n : Nat} : RV fid γ h x (.bs o o' lo n) ↔ ∃ i, γ.mu o = some i ∧ ∃ a c, x = .slice (some a) n c ∧ n ≤ c ∧ (0 = i.ver → 0 < c → ∃ b, i.blk = some b ∧ a = ⟨b, o' + lo, none⟩) := by simp [RV, RAt]
theorem RV_scal {x : Value} {v : PV} (hs : scal v = true) (H : scalR v x) : RV fid γ h x v := by
  cases v <;> simp only [scal, Bool.false_eq_true] at hs <;> simp only [scalR] at H
  · simpa using H
  · simpa using H
  · exact RV_s.2 H
theorem scalR_scal {x : Value} {v : PV} (H : scalR v x) : scal v = true := by cases v <;> simp_all [scalR, scal]
theorem RV_flatL {x : Value} {g : Bool} {xs : List (List PV)} (H : RV fid γ h x (.l g xs)) : RV fid γ h x (.l false xs) := by
  rw [RV_l] at H ⊢
  obtain ⟨a, c, e, hc, H⟩ := H
  have hq : ∀ b, γ.q g b → γ.q false b ∧ h[b]? = h[b]? := fun b hb => ⟨⟨hb.1, by simp⟩, rfl⟩
  refine ⟨a, c, e, hc, H.imp id ?_⟩
  rintro ⟨b, o, w, cs', e1, e2, e3, e4⟩
  exact ⟨b, o, w, cs', e1, (hq b e2).1, e3, PEls_mono hq _ _ _ _ e4⟩
theorem RL_get : ∀ {l : List PV} {arr : Array Value} {off : Nat} (k : Nat) (v : PV), RL fid γ h arr off l → l[k]? = some v → ∃ x, arr[off + k]? = some x ∧ RV fid γ h x v
  | [], _, _, _, _, _, e => by simp at e
  | y :: r, arr, off, 0, v, H, e => by simp only [RL] at H; simp at e; subst e; exact H.1
  | y :: r, arr, off, k + 1, v, H, e => by
    simp only [RL] at H
    have := RL_get (off := off + 1) k v H.2 (by simpa using e)
    rwa [show off + 1 + k = off + (k + 1) by omega] at this
end

section
variable {P : Program} {E : Env} {C : Ctx} {γ : Gh} {w : World} {a : Act} {sl : SL} {ob : OB}

theorem RV_const {fid : Nat → Nat} (h : Array Obj) (v : Value) : RV fid γ h v (constP v) := by
  unfold constP
  split <;> first
    | exact RV_un
    | (simp [RV, RAt])

variable (hE : E.fid = C.fid) (hG : E.glob = C.glob) (S : St C γ w a.tmps sl ob)
include hE hG S
theorem ev_ok (x : Operand) : RV C.fid γ w.heap (a.eval x) (ev E sl x) := by
  cases x with
  | tmp t => exact S.slot t
  | const v => exact RV_const _ v
  | global g =>
    simp only [ev, Act.eval]
    cases hg : E.glob g with
    | none => exact RV_un
    | some xs =>
      obtain ⟨h1, cs, h2, h3⟩ := S.glob g xs (by rw [← hG]; exact hg)
      exact RV_q.2 ⟨g, 0, cs, by simp, h1, h2, h3⟩
  | func f => exact RV_fn.2 ⟨f, #[], #[], rfl, by rw [hE], ⟨rfl, by simp [RL]⟩, rfl, by simp [RL]⟩
theorem evs_ok : ∀ (l : List Operand), RL C.fid γ w.heap (l.map a.eval).toArray 0 (evs E sl l) := by
  have key : ∀ (l : List Operand) (pre : List Value), RL C.fid γ w.heap (pre ++ l.map a.eval).toArray pre.length (evs E sl l) := by
    intro l
    induction l with
    | nil => intro pre; simp [evs, RL]
    | cons x r ih =>
      intro pre
      simp only [evs, RL]
      refine ⟨⟨a.eval x, by simp, ev_ok hE hG S x⟩, ?_⟩
      have := ih (pre ++ [a.eval x])
      simpa using this
  intro l
  have := key l []
  simpa using this
omit hE hG S in
theorem evs_len (l : List Operand) : (evs E sl l).length = l.length := by
  induction l with
  | nil => rfl
  | cons x r ih => simp [evs, ih]
omit hE hG

/-- Through a pointer that holds. -/
theorem atO_ok {x : Value} {o ver i off : Nat} {cells : List PV} (hx : RV C.fid γ w.heap x (.p o ver i off none)) (H : atO (getO ob o) ver i off = some cells) :
    ∃ b o' cs, x = .pointer (some ⟨b, o', none⟩) ∧ rowAt w.heap b cs ∧ RCells C.fid γ w.heap cs o' cells ∧ (0 < wds cells → o' + wds cells ≤ cs.size) := by
  rw [RV_p] at hx
  obtain ⟨I, hI, hv, ad, ex, hx⟩ := hx
  cases ho : getO ob o with
  | none => simp [ho, atO] at H
  | some X =>
    simp only [ho, atO] at H
    split at H
    · rename_i hver
      obtain ⟨I', hI', h1, h2, h3, h4⟩ := S.obj o X ho
      rw [hI] at hI'; injection hI' with hI'; subst hI'
      obtain ⟨b, hb, ea⟩ := hx (by omega)
      simp only [hb] at h4
      obtain ⟨hw, cs, hown, hsz, hels⟩ := h4
      cases hel : X.els[i]? with
      | none => simp [hel, atE] at H
      | some el =>
        simp only [hel, atE, Option.map_eq_some_iff] at H
        obtain ⟨r, hr, hc⟩ := H
        obtain ⟨pre, e, hp⟩ := dropW_suf hr
        have hi : i < X.els.length := (List.getElem?_eq_some_iff.1 hel).1
        have hmul : i * I.w + I.w ≤ cs.size := by
          have : (i + 1) * I.w ≤ I.tot * I.w := Nat.mul_le_mul_right _ (by omega)
          rw [Nat.succ_mul] at this; omega
        have key : wds el = I.w ∧ RCells C.fid γ w.heap cs (i * I.w + off) cells ∧ wds cells = wds r := by
          rcases hels with ⟨hp', hels⟩ | ⟨hp', hels⟩
          · have := PEls_get hels i el hel
            simp only [Nat.zero_add] at this
            refine ⟨this.1, ?_, by rw [← hc, hp']; simp [wds_rt]⟩
            rw [e, PCells_app, hp] at this
            rw [← hc, hp']; exact PCells_rt this.2.2
          · have := REls_get hels i el hel
            simp only [Nat.zero_add] at this
            refine ⟨this.1, ?_, by rw [← hc, hp']; simp⟩
            rw [e, RCells_app, hp] at this
            rw [← hc, hp']; simpa using this.2.2
        refine ⟨b, i * I.w + off, cs, by rw [ex, ea]; simp, hown.row, key.2.1, ?_⟩
        rw [key.2.2]
        intro _
        have := key.1
        rw [e, wds_app, hp] at this
        omega
    · cases H
theorem atP_ok {x : Value} {v : PV} {cells : List PV} (hx : RV C.fid γ w.heap x v) (H : atP ob v = some cells) :
    ∃ b o' cs, x = .pointer (some ⟨b, o', none⟩) ∧ rowAt w.heap b cs ∧ RCells C.fid γ w.heap cs o' cells ∧ (0 < wds cells → o' + wds cells ≤ cs.size) := by
  unfold atP at H
  split at H
  · exact atO_ok S hx H
  · rename_i g xs
    injection H with H; subst H
    rw [RV_q] at hx
    obtain ⟨b, o, cs, e, hb, hr, hc⟩ := hx
    refine ⟨b, o, cs, by simpa using e, hr, PCells_rt hc, ?_⟩
    rw [wds_rt]
    intro hpos
    have := PCells_there hc (wds xs - 1) (by omega); omega
  · cases H
omit S
theorem hd1_ok {cells : Option (List PV)} {v : PV} (H : hd1 cells = some v) : ∃ r, cells = some (v :: r) ∧ wd v = 1 := by
  unfold hd1 at H
  split at H
  · cases H
  · rename_i u r hn
    injection H with H; subst H
    refine ⟨r, rfl, ?_⟩
    cases u <;> first | rfl | exact (hn _ _ rfl).elim
  · cases H
theorem blobAt_ok {cells : Option (List PV)} {xs : List PV} (H : blobAt cells = some xs) : ∃ n r, cells = some (.blob n xs :: r) := by
  unfold blobAt at H
  split at H
  · rename_i n xs' r
    injection H with H; subst H; exact ⟨n, r, rfl⟩
  · cases H
/-- The first cell. -/
theorem head_cell {o' : Nat} {cs : Array Value} {v : PV} {r : List PV} (hc : RCells C.fid γ w.heap cs o' (v :: r)) (hw : wd v = 1) (hs : 0 < wds (v :: r) → o' + wds (v :: r) ≤ cs.size) :
    ∃ y, cs[o']? = some y ∧ RV C.fid γ w.heap y v := by
  simp only [wds, hw] at hs
  have hlt : o' < cs.size := by have := hs (by omega); omega
  simp only [RCells] at hc
  exact ⟨cs[o'], Array.getElem?_eq_getElem hlt, RV.of (Array.getElem?_eq_getElem hlt) (by omega) hc.1.2⟩
theorem blob_cell {o' k : Nat} {cs : Array Value} {n : Nat} {xs r : List PV} {v : PV} (hc : RCells C.fid γ w.heap cs o' (.blob n xs :: r)) (hk : xs[k]? = some v) :
    ∃ y, cs[o' + k]? = some y ∧ RV C.fid γ w.heap y v := by
  simp only [RCells, RAt] at hc
  obtain ⟨y, hy, hs⟩ := hc.1.2.2 k v hk
  exact ⟨y, hy, RV_scal (scalR_scal hs) hs⟩
theorem aggO_takeO {c : Option (List PV)} {n : Nat} {v : PV} (H : aggO (takeO c n) = some v) : ∃ cells fr, c = some cells ∧ takeW cells n = some fr ∧ v = .agg fr := by
  cases c with
  | none => simp [takeO, aggO] at H
  | some cells =>
    simp only [takeO] at H
    cases ht : takeW cells n with
    | none => simp [ht, aggO] at H
    | some fr => simp only [ht, aggO, Option.some.injEq] at H; exact ⟨cells, fr, rfl, ht, H.symm⟩
include S

theorem l1_ok {x : Value} {av v : PV} {t : TypeId} (hx : RV C.fid γ w.heap x av) (hk : known P t = true) (ha : aggT P t = false) (H : l1 ob av = some v) :
    ∃ y, (Instr.loadAt t x).run P w = .ok y w ∧ RV C.fid γ w.heap y v := by
  obtain ⟨d, hd⟩ := known_some hk
  have fin : ∀ {b o' : Nat} {cs : Array Value} {y : Value}, rowAt w.heap b cs → cs[o']? = some y → (Instr.loadAt t (.pointer (some ⟨b, o', none⟩))).run P w = .ok y w := by
    intro b o' cs y hr hy
    simp [Instr.loadAt, Instr.sureAddr, loadVar, run_isAgg' hd, ha, cell_rowAt hr, hy]
  unfold l1 at H
  split at H
  · rename_i o ver i off
    obtain ⟨r, hr, hw⟩ := hd1_ok H
    obtain ⟨b, o', cs, e, hrow, hc, hs⟩ := atO_ok S hx hr
    obtain ⟨y, hy, hv⟩ := head_cell hc hw hs
    exact ⟨y, by rw [e]; exact fin hrow hy, hv⟩
  · rename_i o ver i off k
    cases hb : blobAt (atO (getO ob o) ver i off) with
    | none => simp [hb, nthB] at H
    | some xs =>
      simp only [hb, nthB] at H
      obtain ⟨n, r, hr⟩ := blobAt_ok hb
      have hx' : ∃ a, x = .pointer (some a) ∧ RV C.fid γ w.heap (.pointer (some ⟨a.block, a.off - k, none⟩)) (.p o ver i off none) ∧ (∀ I X, γ.mu o = some I → getO ob o = some X → X.ver = ver → a.spot = none ∧ k ≤ a.off) := by
        rw [RV_p] at hx
        obtain ⟨I, hI, hv, ad, ex, hx⟩ := hx
        refine ⟨ad, ex, RV_p.2 ⟨I, hI, hv, _, rfl, fun e => ?_⟩, fun I' X hI' hX hXv => ?_⟩
        · obtain ⟨b, hb, ea⟩ := hx e
          exact ⟨b, hb, by rw [ea]; simp⟩
        · obtain ⟨I2, hI2, h1, _⟩ := S.obj o X hX
          rw [hI] at hI2; injection hI2 with hI2; subst hI2
          obtain ⟨b, hb, ea⟩ := hx (by omega)
          rw [ea]; simp
      obtain ⟨ad, ex, hx', hh⟩ := hx'
      obtain ⟨b, o', cs, e, hrow, hc, hs⟩ := atO_ok S hx' hr
      obtain ⟨y, hy, hv⟩ := blob_cell hc H
      have hver : ∃ I X, γ.mu o = some I ∧ getO ob o = some X ∧ X.ver = ver := by
        cases ho : getO ob o with
        | none => simp [ho, atO] at hr
        | some X =>
          simp only [ho, atO] at hr
          split at hr
          · rename_i hver
            obtain ⟨I, hI, _⟩ := S.obj o X ho
            exact ⟨I, X, hI, rfl, hver⟩
          · cases hr
      obtain ⟨I, X, h1, h2, h3⟩ := hver
      obtain ⟨hsp, hle⟩ := hh I X h1 h2 h3
      refine ⟨y, ?_, hv⟩
      injection e with e; injection e with e
      have : ad = ⟨b, o' + k, none⟩ := by
        cases ad with
        | mk bl of sp =>
          simp only at hsp hle
          simp only [Addr.mk.injEq] at e
          obtain ⟨e1, e2, _⟩ := e
          simp only [Addr.mk.injEq]
          exact ⟨e1, by omega, hsp⟩
      rw [ex, this]; exact fin hrow hy
  · rename_i g xs
    obtain ⟨r, hr, hw⟩ := hd1_ok H
    injection hr with hr
    obtain ⟨b, o', cs, e, hrow, hc, hs⟩ := atP_ok S hx (cells := xs.map (rt g)) (by simp [atP])
    rw [hr] at hc hs
    obtain ⟨y, hy, hv⟩ := head_cell hc hw hs
    exact ⟨y, by rw [e]; exact fin hrow hy, hv⟩
  · rename_i g xs k
    cases hb : blobAt (some xs) with
    | none => simp [hb, nthB] at H
    | some ys =>
      simp only [hb, nthB] at H
      obtain ⟨n, r, hr⟩ := blobAt_ok hb
      injection hr with hr
      rw [RV_q] at hx
      obtain ⟨b, o, cs, e, hq, hrow, hc⟩ := hx
      rw [hr] at hc
      simp only [PCells, PAt] at hc
      obtain ⟨y, hy, hs⟩ := hc.1.2 k v H
      exact ⟨y, by rw [e]; exact fin hrow (by simpa using hy), RV_scal (scalR_scal hs) hs⟩
  · cases H

theorem lN_ok {x : Value} {av v : PV} {t : TypeId} (hx : RV C.fid γ w.heap x av) (hk : known P t = true) (ha : aggT P t = true) (H : lN ob (P.cellsOf t) av = some v) :
    ∃ y, (Instr.loadAt t x).run P w = .ok y w ∧ RV C.fid γ w.heap y v := by
  obtain ⟨d, hd⟩ := known_some hk
  obtain ⟨cells, fr, hc, ht, rfl⟩ := aggO_takeO H
  obtain ⟨b, o', cs, e, hrow, hcs, hs⟩ := atP_ok S hx hc
  obtain ⟨c, e', hw⟩ := takeW_pre ht
  have hsz : P.cellsOf t = 0 ∨ o' + P.cellsOf t ≤ cs.size := by
    rcases Nat.eq_zero_or_pos (P.cellsOf t) with h | h
    · exact .inl h
    · have h1 := wds_app fr c
      rw [← e', hw] at h1
      have := hs (by omega)
      exact .inr (by omega)
  rw [e', RCells_app] at hcs
  refine ⟨.agg (cs.extract o' (o' + P.cellsOf t)), ?_, ?_⟩
  · rw [e]
    have hl : (loadCells ⟨b, o', none⟩ (P.cellsOf t)).run P w = .ok (cs.extract o' (o' + P.cellsOf t)) w := by
      rcases hsz with h | h
      · rw [h]; simp [loadCells, loadCellsFrom]; exact Nat.min_le_left _ _
      · exact run_loadCells_rowAt hrow h
    simp [Instr.loadAt, Instr.sureAddr, loadVar, run_isAgg' hd, ha, run_sizeOf' hd, hl]
  · refine RV_agg.2 ⟨_, rfl, ?_, ?_⟩
    · rw [hw]; simp; omega
    · refine RCells_at ?_ hcs.1
      intro i y hi hy
      rw [hw] at hi
      rw [Nat.zero_add, getElem?_extract' hi (by omega)]
      exact hy
end
end Go.Proofs.YtcimkkcajkmfoaaDoor
