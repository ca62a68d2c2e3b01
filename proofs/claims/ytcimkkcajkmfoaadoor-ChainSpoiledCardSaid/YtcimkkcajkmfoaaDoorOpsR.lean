/-
  Slices and indices: what they yield is what the reading says.
-/
import Derived.Test.YtcimkkcajkmfoaaDoorOpsQ
set_option linter.all false
namespace Go.Proofs.YtcimkkcajkmfoaaDoor
open Go

section
variable {P : Program} {C : Ctx} {γ : Gh} {w : World} {act : Act} {sl : SL} {ob : OB}

theorem len_ok {x : Value} {xv v : PV} {t ty e : TypeId} {at' : Array TypeId} (hx : RV C.fid γ w.heap x xv) (ht : P.underlying t = some (.slice e)) (h0 : at'[0]? = some t) (H : len xv = some v) :
    ∃ z, (Builtin.len_ at' ty #[x]).run P w = .ok z w ∧ RV C.fid γ w.heap z v := by
  have hs : ∀ {a : Option Addr} {m c : Nat}, (Builtin.len_ at' ty #[.slice a m c]).run P w = .ok (goInt m) w := by
    intro a m c
    simp [Builtin.len_, h0, run_underlying' ht]
  unfold len at H
  split at H
  · injection H with H; subst H
    obtain ⟨a, c, e, _⟩ := RV_l.1 hx
    exact ⟨_, by rw [e]; exact hs, RV_i.2 rfl⟩
  · injection H with H; subst H
    obtain ⟨a, c, e, _⟩ := RV_l.1 (RV_ln.1 hx).1
    exact ⟨_, by rw [e]; exact hs, RV_i.2 rfl⟩
  · injection H with H; subst H
    obtain ⟨a, e, _⟩ := RV_e.1 hx
    exact ⟨_, by rw [e]; exact hs, RV_i.2 rfl⟩
  · injection H with H; subst H
    obtain ⟨_, _, _, a, c, e, _⟩ := RV_sl.1 hx
    exact ⟨_, by rw [e]; exact hs, RV_i.2 rfl⟩
  · injection H with H; subst H
    obtain ⟨_, _, a, c, e, _⟩ := RV_bs.1 hx
    exact ⟨_, by rw [e]; exact hs, RV_i.2 rfl⟩
  · cases H
theorem lenS_ok {x : Value} {xv v : PV} {t ty : TypeId} {at' : Array TypeId} (hx : RV C.fid γ w.heap x xv) (ht : P.underlying t = some .string) (h0 : at'[0]? = some t) (H : lenS xv = some v) :
    ∃ z, (Builtin.len_ at' ty #[x]).run P w = .ok z w ∧ RV C.fid γ w.heap z v := by
  unfold lenS at H
  split at H
  · injection H with H; subst H
    obtain ⟨s, e, hs⟩ := RV_s.1 hx
    refine ⟨goInt s.size, by rw [e]; simp [Builtin.len_, h0, run_underlying' ht], RV_i.2 ?_⟩
    rw [← hs, Array.length_toList]; rfl
  · cases H
theorem xVs_ok {x y : Value} {xv yv v : PV} {t : TypeId} (hx : RV C.fid γ w.heap x xv) (hy : RV C.fid γ w.heap y yv) (ht : P.underlying t = some .string) (H : xVs xv yv = some v) :
    ∃ z, (Instr.index t x y).run P w = .ok z w ∧ RV C.fid γ w.heap z v := by
  unfold xVs at H
  split at H
  · rename_i l k i
    obtain ⟨s, rfl, hs⟩ := RV_s.1 hx
    rw [RV_i] at hy; subst hy
    split at H
    · rename_i hi
      cases hc : l[i.toNat]? with
      | none => simp [hc, chO] at H
      | some c =>
        simp only [hc, chO, Option.some.injEq] at H; subst H
        have e : s[i.toNat]? = some c := by
          rw [← hs] at hc
          have hlt : i.toNat < s.data.toList.length := (List.getElem?_eq_some_iff.1 hc).1
          rw [Array.length_toList] at hlt
          have hlt' : i.toNat < s.size := hlt
          rw [getElem?_pos s i.toNat hlt']
          rw [Array.getElem?_toList, Array.getElem?_eq_getElem hlt] at hc
          exact hc
        exact ⟨.int .u8 c.toNat, by simp [Instr.index, asIntOf, run_underlying' ht, hi, e], RV_i.2 rfl⟩
    · cases H
  · cases H
theorem blob_get {cs : Array Value} {n k : Nat} {xs : List PV} {v : PV} {off : Nat} (H : RAt C.fid γ w.heap cs off (.blob n xs)) (hk : xs[k]? = some v) : ∃ y, cs[off + k]? = some y ∧ RV C.fid γ w.heap y v := by
  simp only [RAt] at H
  obtain ⟨y, hy, hs⟩ := H.2 k v hk
  exact ⟨y, hy, RV_scal (scalR_scal hs) hs⟩
theorem xV_ok {x y : Value} {xv yv v : PV} {t e : TypeId} {n : Nat} (hx : RV C.fid γ w.heap x xv) (hy : RV C.fid γ w.heap y yv) (ht : P.underlying t = some (.array n e)) (hk : known P e = true)
    (H : xV n (P.cellsOf e) (aggT P e) xv yv = some v) : ∃ z, (Instr.index t x y).run P w = .ok z w ∧ RV C.fid γ w.heap z v := by
  obtain ⟨d, hd⟩ := known_some hk
  unfold xV at H
  split at H
  · rename_i m xs k i
    obtain ⟨arr, rfl, hs, hc⟩ := RV_agg.1 hx
    rw [RV_i] at hy; subst hy
    split at H
    · rename_i hi
      obtain ⟨h0, h1, hm⟩ := hi
      have hlt : i.toNat < n := by omega
      have hmul : i.toNat * P.cellsOf e + P.cellsOf e ≤ n * P.cellsOf e := by
        have := Nat.mul_le_mul_right (P.cellsOf e) (show i.toNat + 1 ≤ n by omega)
        rwa [Nat.succ_mul] at this
      simp only [wds, wd, Nat.add_zero] at hs
      simp only [RCells, RAt] at hc
      have hrun : (Instr.index t (.agg arr) (.int k i)).run P w = (part e arr (i.toNat * P.cellsOf e)).run P w := by
        simp [Instr.index, asIntOf, run_underlying' ht, h0, h1, run_sizeOf' hd]
      rw [hrun]
      cases ha : aggT P e with
      | false =>
        simp only [ha, if_true] at H
        split at H
        · rename_i hw
          obtain ⟨y, hy, hv⟩ := hc.1.2.2 i.toNat v H
          rw [Nat.zero_add] at hy
          exact ⟨y, by simp [part, run_isAgg' hd, ha, hw, hy], RV_scal (scalR_scal hv) hv⟩
        · cases H
      | true =>
        simp only [ha, Bool.true_eq_false, if_false, Option.some.injEq] at H; subst H
        refine ⟨.agg (arr.extract (i.toNat * P.cellsOf e) (i.toNat * P.cellsOf e + P.cellsOf e)), by simp [part, run_isAgg' hd, ha, run_sizeOf' hd], RV_agg.2 ⟨_, rfl, ?_, ?_⟩⟩
        · simp only [wds, wd, Nat.add_zero, Array.size_extract]; omega
        · simp only [RCells, RAt, and_true]
          refine ⟨rfl, by have := hc.1.2.1; simp only [List.length_take, List.length_drop]; omega, fun j u hj => ?_⟩
          have hjl : j < P.cellsOf e := by
            have := (List.getElem?_eq_some_iff.1 hj).1
            simp only [List.length_take] at this; omega
          rw [List.getElem?_take_of_lt hjl, List.getElem?_drop] at hj
          obtain ⟨y, hy, hv⟩ := hc.1.2.2 _ u hj
          refine ⟨y, ?_, hv⟩
          rw [Nat.zero_add, getElem?_extract' hjl (by omega)]
          rw [Nat.zero_add] at hy; exact hy
    · cases H
  · cases H
theorem cp_ok (S : St C γ w act.tmps sl ob) {x : Value} {xv v : PV} {t ty e : TypeId} {at' : Array TypeId} (hx : RV C.fid γ w.heap x xv) (ht : P.underlying t = some (.slice e)) (h0 : at'[0]? = some t) (H : cp ob xv = some v) :
    ∃ z, (Builtin.cap_ at' ty #[x]).run P w = .ok z w ∧ RV C.fid γ w.heap z v := by
  have hs : ∀ {a : Option Addr} {m c : Nat}, (Builtin.cap_ at' ty #[.slice a m c]).run P w = .ok (goInt c) w := by
    intro a m c
    simp [Builtin.cap_, h0, run_underlying' ht]
  unfold cp at H
  split at H
  · injection H with H; subst H
    obtain ⟨a, e, _⟩ := RV_e.1 hx
    exact ⟨_, by rw [e]; exact hs, RV_i.2 rfl⟩
  · rename_i o ver lo n
    obtain ⟨I, hI, hv, a, c, e, hh⟩ := RV_sl.1 hx
    unfold cpO at H
    split at H
    · rename_i y hy
      split at H
      · rename_i hver
        obtain ⟨I', hI', h1, h2, h3, h4⟩ := S.obj o y hy
        rw [hI] at hI'; injection hI' with hI'; subst hI'
        obtain ⟨g1, g2, g3⟩ := hh (by omega)
        cases hc : y.cap with
        | none => simp [hc, capI] at H
        | some cc =>
          simp only [hc, capI, Option.some.injEq] at H; subst H
          have := h2 cc hc
          exact ⟨_, by rw [e]; exact hs, RV_i.2 (by simp only [goInt, Value.int.injEq, true_and]; omega)⟩
      · cases H
    · cases H
  · cases H
theorem mnI_ok {x y : Value} {xv yv v : PV} {ty : TypeId} {at' : Array TypeId} (hx : RV C.fid γ w.heap x xv) (hy : RV C.fid γ w.heap y yv) (H : mnI xv yv = some v) :
    ∃ z, (Builtin.min_ at' ty #[x, y]).run P w = .ok z w ∧ RV C.fid γ w.heap z v := by
  unfold mnI at H
  split at H
  · rw [RV_i] at hx hy; subst hx; subst hy
    split at H
    · injection H with H; subst H; exact ⟨_, by simp [Builtin.min_, Builtin.min2], RV_i.2 rfl⟩
    · cases H
  · cases H
theorem mxI_ok {x y : Value} {xv yv v : PV} {ty : TypeId} {at' : Array TypeId} (hx : RV C.fid γ w.heap x xv) (hy : RV C.fid γ w.heap y yv) (H : mxI xv yv = some v) :
    ∃ z, (Builtin.max_ at' ty #[x, y]).run P w = .ok z w ∧ RV C.fid γ w.heap z v := by
  unfold mxI at H
  split at H
  · rw [RV_i] at hx hy; subst hx; subst hy
    split at H
    · injection H with H; subst H; exact ⟨_, by simp [Builtin.max_, Builtin.max2], RV_i.2 rfl⟩
    · cases H
  · cases H
theorem eNs_ok {neg : Bool} {x : Value} {xv v : PV} (S : St C γ w act.tmps sl ob) (hx : RV C.fid γ w.heap x xv) (H : eNs neg ob xv = some v) :
    ∃ r, (v = .b (r ^^ neg) ∨ v = .ub) ∧ ∃ a n c, x = .slice a n c ∧ a.isNone = r := by
  unfold eNs at H
  split at H
  · injection H with H; subst H
    obtain ⟨_, a, n, c, e⟩ := RV_ln.1 hx
    exact ⟨false, by simp, _, _, _, e, rfl⟩
  · rename_i g xs
    injection H with H; subst H
    obtain ⟨a, c, e, _, hh⟩ := RV_l.1 hx
    cases xs with
    | nil => exact ⟨a.isNone, .inr rfl, a, _, c, e, rfl⟩
    | cons y ys =>
      rcases hh with hh | ⟨b, o, w', cs', ea, _⟩
      · cases hh
      · exact ⟨false, .inl (by simp [eNl]), a, _, c, e, by rw [ea]; rfl⟩
  · rename_i nl
    injection H with H; subst H
    obtain ⟨a, e, ha⟩ := RV_e.1 hx
    refine ⟨nl, .inl rfl, _, _, _, e, ?_⟩
    cases a <;> cases nl <;> simp_all
  · rename_i o ver lo n
    unfold eNX at H
    split at H
    · rename_i y hy
      split at H
      · rename_i hc
        injection H with H; subst H
        obtain ⟨I, hI, hv, a, c, e, hh⟩ := RV_sl.1 hx
        obtain ⟨I', hI', h1, _⟩ := S.obj o y hy
        rw [hI] at hI'; injection hI' with hI'; subst hI'
        obtain ⟨g1, g2, g3⟩ := hh (by omega)
        obtain ⟨b, hb, ea⟩ := g3 (by omega)
        exact ⟨false, by simp, a, _, _, e, by rw [ea]; rfl⟩
      · cases H
    · cases H
  · cases H
theorem eNp_ok {neg : Bool} {x : Value} {xv v : PV} (hx : RV C.fid γ w.heap x xv) (H : eNp neg xv = some v) : ∃ r, v = .b (r ^^ neg) ∧ ∃ a, x = .pointer a ∧ a.isNone = r := by
  unfold eNp at H
  split at H
  · injection H with H; subst H
    rw [RV_np] at hx
    exact ⟨true, by simp, none, hx, rfl⟩
  · injection H with H; subst H
    obtain ⟨_, _, _, a, e, _⟩ := RV_p.1 hx
    exact ⟨false, by simp, _, e, rfl⟩
  · injection H with H; subst H
    obtain ⟨b, o, cs, e, _⟩ := RV_q.1 hx
    exact ⟨false, by simp, _, e, rfl⟩
  · cases H
theorem eNf_ok {neg : Bool} {x : Value} {xv v : PV} (hx : RV C.fid γ w.heap x xv) (H : eNf neg xv = some v) : ∃ r, v = .b (r ^^ neg) ∧ ((x = .nilFunc ∧ r = true) ∨ ∃ f a b, x = .func f a b ∧ r = false) := by
  unfold eNf at H
  split at H
  · injection H with H; subst H
    obtain ⟨f0, a1, a2, e, _⟩ := RV_fn.1 hx
    exact ⟨false, by simp, .inr ⟨_, _, _, e, rfl⟩⟩
  · injection H with H; subst H
    rw [RV_nf] at hx
    exact ⟨true, by simp, .inl ⟨hx, rfl⟩⟩
  · cases H
/-- What a slice holds. -/
def SliceR (γ : Gh) (h : Array Obj) (x : Value) (g : Bool) (ys : List (List PV)) : Prop :=
  ∃ a c, x = .slice a ys.length c ∧ ys.length ≤ c ∧ (ys = [] ∨ ∃ b o w' cs', a = some ⟨b, o, none⟩ ∧ rowAt h b cs' ∧ PEls h (γ.q g) cs' w' o ys)
theorem PEls_sub {h : Array Obj} {q : Nat → Prop} {cs : Array Value} {w' off : Nat} {l : List (List PV)} (H : PEls h q cs w' off l) (lo n : Nat) : PEls h q cs w' (off + lo * w') ((l.drop lo).take n) :=
  PEls_of fun i x hx => by
    have hi : i < n := by
      have := (List.getElem?_eq_some_iff.1 hx).1
      simp only [List.length_take] at this; omega
    rw [List.getElem?_take_of_lt hi, List.getElem?_drop] at hx
    have := PEls_get H _ x hx
    rwa [Nat.add_mul, ← Nat.add_assoc] at this
theorem contX_ok {γ : Gh} (S : St C γ w act.tmps sl ob) {x : Value} {o ver lo n : Nat} {r : Bool × List (List PV)} (hx : RV C.fid γ w.heap x (.sl o ver lo n)) (H : contX (getO ob o) ver lo n = some r) : SliceR γ w.heap x r.1 r.2 ∧ r.2.length = n := by
  cases hy : getO ob o with
  | none => simp [hy, contX] at H
  | some y =>
    simp only [hy, contX] at H
    split at H
    · rename_i hc
      obtain ⟨hp, hver, hlen⟩ := hc
      injection H with H; subst H
      obtain ⟨I, hI, hv, a, c, e, hh⟩ := RV_sl.1 hx
      obtain ⟨I', hI', h1, h2, h3, h4⟩ := S.obj o y hy
      rw [hI] at hI'; injection hI' with hI'; subst hI'
      obtain ⟨g1, g2, g3⟩ := hh (by omega)
      have hl : ((y.els.drop lo).take n).length = n := by simp; omega
      refine ⟨⟨a, c, by rw [e, hl], Nat.le_trans (Nat.le_of_eq hl) g2, ?_⟩, hl⟩
      rcases Nat.eq_zero_or_pos n with h0 | hpos
      · left; subst h0; simp
      · right
        obtain ⟨b, hb, ea⟩ := g3 (by omega)
        simp only [hb] at h4
        obtain ⟨hw, cs, hown, hsz, hels⟩ := h4
        rcases hels with ⟨_, hels⟩ | ⟨hp', _⟩
        · refine ⟨b, _, I.w, cs, ea, hown.row, ?_⟩
          have := PEls_sub hels lo n
          rwa [Nat.zero_add] at this
        · rw [hp] at hp'; cases hp'
    · cases H
theorem contL_ok (S : St C γ w act.tmps sl ob) {x : Value} {xv : PV} {r : Bool × List (List PV)} (hx : RV C.fid γ w.heap x xv) (H : contL ob xv = some r) : SliceR γ w.heap x r.1 r.2 := by
  have hl : ∀ {g xs}, RV C.fid γ w.heap x (.l g xs) → SliceR γ w.heap x g xs := by
    intro g xs hx
    obtain ⟨a, c, e, hc, h⟩ := RV_l.1 hx
    exact ⟨a, c, e, hc, h.imp id fun ⟨b, o, w', cs', h1, _, h3, h4⟩ => ⟨b, o, w', cs', h1, h3, h4⟩⟩
  unfold contL at H
  split at H
  · injection H with H; subst H; exact hl hx
  · injection H with H; subst H; exact hl (RV_ln.1 hx).1
  · injection H with H; subst H
    obtain ⟨a, e, _⟩ := RV_e.1 hx
    exact ⟨a, 0, e, by simp, .inl rfl⟩
  · exact (contX_ok S hx H).1
  · rename_i o off lo n
    cases hb : blobAt (atO (getO ob o) 0 0 off) with
    | none => simp [hb, contB] at H
    | some xs =>
      simp only [hb, contB] at H
      split at H
      · rename_i hlen
        injection H with H; subst H
        obtain ⟨m, rr, hr⟩ := blobAt_ok hb
        obtain ⟨I, hI, a, c, e, hn, hh⟩ := RV_bs.1 hx
        have hver : I.ver = 0 := by
          cases ho : getO ob o with
          | none => simp [ho, atO] at hr
          | some X =>
            simp only [ho, atO] at hr
            split at hr
            · rename_i hver
              obtain ⟨I', hI', h1, _⟩ := S.obj o X ho
              rw [hI] at hI'; injection hI' with hI'; subst hI'
              omega
            · cases hr
        have hl : (((xs.drop lo).take n).map fun v => [v]).length = n := by simp; omega
        refine ⟨some a, c, by rw [e, hl], Nat.le_trans (Nat.le_of_eq hl) hn, ?_⟩
        rcases Nat.eq_zero_or_pos n with h0 | hpos
        · left; subst h0; simp
        · right
          obtain ⟨b, hb', ea⟩ := hh hver.symm (by omega)
          have hx' : RV C.fid γ w.heap (.pointer (some ⟨b, off, none⟩)) (.p o 0 0 off none) := RV_p.2 ⟨I, hI, by omega, _, rfl, fun _ => ⟨b, hb', by simp⟩⟩
          obtain ⟨b2, o', cs, e2, hrow, hcs, hs⟩ := atO_ok S hx' hr
          injection e2 with e2; injection e2 with e2; injection e2 with e2 e3; subst e2; subst e3
          refine ⟨b, _, 1, cs, by rw [ea], hrow, PEls_of fun i y hy => ?_⟩
          have hi : i < n := by
            have := (List.getElem?_eq_some_iff.1 hy).1
            simp only [List.length_map, List.length_take] at this; omega
          rw [List.getElem?_map, List.getElem?_take_of_lt hi, List.getElem?_drop] at hy
          simp only [RCells, RAt] at hcs
          obtain ⟨u, hu, rfl⟩ := Option.map_eq_some_iff.1 hy
          obtain ⟨z, hz, hv⟩ := hcs.1.2.2 _ u hu
          have hsc := scalR_scal hv
          refine ⟨by simp only [wds]; cases u <;> simp_all [wd, scal], ?_⟩
          simp only [PCells, and_true, Nat.mul_one]
          rw [← Nat.add_assoc] at hz
          cases u <;> simp only [scal, Bool.false_eq_true] at hsc <;> simp only [scalR] at hv <;> simp only [PAt]
          · rw [hz, hv]
          · rw [hz, hv]
          · obtain ⟨s, e, h⟩ := hv; exact ⟨s, by rw [hz, e], h⟩
      · cases H
  · cases H
theorem xA_ok {x y : Value} {xv yv v : PV} {t e : TypeId} {n : Nat} (hx : RV C.fid γ w.heap x xv) (hy : RV C.fid γ w.heap y yv) (ht : P.underlying t = some (.array n e)) (h1 : P.cellsOf e = 1)
    (H : xA n xv yv = some v) : ∃ z, (Instr.indexAt t x y).run P w = .ok z w ∧ RV C.fid γ w.heap z v := by
  have hi : ∃ i, P.info? e = some i := by
    cases hi : P.info? e with
    | some i => exact ⟨i, rfl⟩
    | none => simp [Program.cellsOf, hi] at h1
  obtain ⟨i0, hi0⟩ := hi
  have hsz : i0.size = 1 := by simpa [Program.cellsOf, hi0] using h1
  have hr : ∀ {k : IntKind} {i : Int} {b o : Nat}, 0 ≤ i → i < n → (Instr.indexAt t (.pointer (some ⟨b, o, none⟩)) (.int k i)).run P w = .ok (.pointer (some ⟨b, o + i.toNat, none⟩)) w := by
    intro k i b o g0 g1
    simp [Instr.indexAt, asIntOf, run_underlying' ht, Instr.sureAddr, g0, g1, sizeOf, typeInfo, hi0, hsz, add_none]
  have hr' : ∀ {k : IntKind} {i : Int} {ad : Addr}, 0 ≤ i → i < n → (Instr.indexAt t (.pointer (some ad)) (.int k i)).run P w = .ok (.pointer (some (ad.add i.toNat))) w := by
    intro k i ad g0 g1
    simp [Instr.indexAt, asIntOf, run_underlying' ht, Instr.sureAddr, g0, g1, sizeOf, typeInfo, hi0, hsz]
  unfold xA at H
  split at H
  · rename_i o ver j off k i
    rw [RV_i] at hy; subst hy
    split at H
    · rename_i hc
      injection H with H; subst H
      obtain ⟨I, hI, hv, a, rfl, hh⟩ := RV_p.1 hx
      refine ⟨_, hr' hc.1 hc.2, RV_p.2 ⟨I, hI, hv, _, rfl, fun e => ?_⟩⟩
      obtain ⟨b, hb, rfl⟩ := hh e
      exact ⟨b, hb, by rw [add_none]; simp⟩
    · cases H
  · rename_i g m xs r k i
    rw [RV_i] at hy; subst hy
    split at H
    · rename_i hc
      injection H with H; subst H
      obtain ⟨b, o, cs, rfl, hq, hrow, hcs⟩ := RV_q.1 hx
      exact ⟨_, hr' hc.1 hc.2.1, RV_q.2 ⟨b, o, cs, by rw [add_none]; simp, hq, hrow, hcs⟩⟩
    · cases H
  · cases H
end
end Go.Proofs.YtcimkkcajkmfoaaDoor
