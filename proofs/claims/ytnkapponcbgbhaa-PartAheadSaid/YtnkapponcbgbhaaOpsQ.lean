import Derived.Test.YtnkapponcbgbhaaSt
import Derived.Laws.StructEq
set_option linter.all false
namespace Go.Proofs.Ytnkapponcbgbhaa
section
open Go
section
variable {P : Program} {fid : Nat → Nat} {γ : Gh} {h : Array Obj} {w : World}
theorem binI_ok {op : BinOp} {k : IntKind} {a b : Int} {v : PV} {t : TypeId} (hs : isShift op = false) (H : binI op k a b = some v) :
    ∃ y, (binOp op t (.int k a) (.int k b)).run P w = .ok y w ∧ RV fid γ h y v := by
  cases op <;> simp only [isShift, Bool.true_eq_false] at hs <;> simp only [binI] at H <;>
    first
      | (injection H with H; subst H; exact ⟨_, by simp [binOp, Op.intArith, Op.intBits, Op.intCmp]; rfl, by simp⟩)
      | (split at H
         · cases H
         · rename_i hb; injection H with H; subst H; exact ⟨_, by simp [binOp, Op.intDiv, hb]; rfl, by simp⟩)
      | cases H
theorem shiftI_ok {op : BinOp} {k k' : IntKind} {a b : Int} {v : PV} {t : TypeId} (hs : isShift op = true) (H : shiftI op k a b = some v) :
    ∃ y, (binOp op t (.int k a) (.int k' b)).run P w = .ok y w ∧ RV fid γ h y v := by
  unfold shiftI at H
  split at H
  · cases H
  · rename_i hb
    cases op <;> simp only [isShift, Bool.false_eq_true] at hs <;> simp only at H <;> injection H with H <;> subst H <;>
      exact ⟨_, by simp [binOp, Op.shift, hb]; rfl, by simp⟩
theorem str_beq {a b : ByteArray} {x y : List UInt8} (ha : a.data.toList = x) (hb : b.data.toList = y) : (a.toList == b.toList) = decide (x = y) := by
  rw [ByteArray.toList_eq, ByteArray.toList_eq, ha, hb]; by_cases e : x = y <;> simp [e]
theorem bi_ok {op : BinOp} {x y : Value} {xv yv v : PV} {t : TypeId} (hx : RV fid γ h x xv) (hy : RV fid γ h y yv) (_hp : plainT P t = true) (H : bi op xv yv = some v) (a b : Operand) :
    ∃ z, (do eqGuard op t a b x y; binOp op t x y : Sem Value).run P w = .ok z w ∧ RV fid γ h z v := by
  unfold bi at H
  split at H
  · rename_i k m k' n
    rw [RV_i] at hx hy; subst hx; subst hy
    have hg : (eqGuard op t a b (.int k m) (.int k' n)).run P w = .ok () w := by cases op <;> simp [eqGuard]
    split at H
    · rename_i hs
      obtain ⟨z, h1, h2⟩ := shiftI_ok (P := P) (w := w) (t := t) (k' := k') (fid := fid) (γ := γ) (h := h) hs H
      exact ⟨z, by simp only [Sem.run_bind, hg, Result.andThen_ok, h1], h2⟩
    · rename_i hs
      split at H
      · rename_i hk; subst hk
        obtain ⟨z, h1, h2⟩ := binI_ok (P := P) (w := w) (t := t) (fid := fid) (γ := γ) (h := h) (by simpa using hs) H
        exact ⟨z, by simp only [Sem.run_bind, hg, Result.andThen_ok, h1], h2⟩
      · cases H
  · rename_i p q
    rw [RV_s] at hx hy
    obtain ⟨s, rfl, hs⟩ := hx
    obtain ⟨u, rfl, hu⟩ := hy
    have hg : (eqGuard op t a b (.string s) (.string u)).run P w = .ok () w := by cases op <;> simp [eqGuard]
    cases op <;> simp only at H
    case eql =>
      injection H with H; subst H
      refine ⟨.bool (s.toList == u.toList), ?_, ?_⟩
      · simp only [Sem.run_bind, hg, Result.andThen_ok, binOp, Op.stringOp, Sem.run_pure]
      · rw [str_beq hs hu]; exact RV_b.2 rfl
    case neq =>
      injection H with H; subst H
      refine ⟨.bool (!(s.toList == u.toList)), ?_, ?_⟩
      · simp only [Sem.run_bind, hg, Result.andThen_ok, binOp, Op.stringOp, Sem.run_pure]
      · rw [str_beq hs hu]; exact RV_b.2 rfl
    case add =>
      split at H
      · rename_i hl
        injection H with H; subst H
        have h1 : s.size = p.length := by rw [← hs, Array.length_toList]; rfl
        have h2 : u.size = q.length := by rw [← hu, Array.length_toList]; rfl
        refine ⟨.string (s ++ u), ?_, RV_s.2 ⟨_, rfl, ?_⟩⟩
        · have : ¬ (((s.size + u.size : Nat) : Int) > IntKind.i64.max) := by
            rw [h1, h2]; simp only [two32] at hl; simp [IntKind.max, IntKind.bits, IntKind.signed]; omega
          simp only [Sem.run_bind, hg, Result.andThen_ok, binOp, Op.stringOp, if_neg this, Sem.run_pure]
        · rw [← hs, ← hu]; simp
      · cases H
    all_goals cases H
  · cases H
theorem biB_ok {op : BinOp} {x y : Value} {xv yv v : PV} {t : TypeId} (hx : RV fid γ h x xv) (hy : RV fid γ h y yv) (hp : boolT P t = true) (H : biB op xv yv = some v) (a b : Operand) :
    ∃ z, (do eqGuard op t a b x y; binOp op t x y : Sem Value).run P w = .ok z w ∧ RV fid γ h z v := by
  have hu : P.underlying t = some .bool := by unfold boolT at hp; split at hp <;> simp_all
  unfold biB at H
  split at H
  · rename_i p q
    rw [RV_b] at hx hy; subst hx; subst hy
    have hg : (eqGuard op t a b (.bool p) (.bool q)).run P w = .ok () w := by cases op <;> simp [eqGuard]
    have he : (Op.equal t (.bool p) (.bool q)).run P w = .ok (p == q) w := run_equalIn_bool' w 9999 t p q hu
    cases op <;> simp only at H
    case eql =>
      injection H with H; subst H
      exact ⟨.bool (p == q), by simp only [Sem.run_bind, hg, Result.andThen_ok, binOp, he, Sem.run_pure], RV_b.2 rfl⟩
    case neq =>
      injection H with H; subst H
      exact ⟨.bool (!(p == q)), by simp only [Sem.run_bind, hg, Result.andThen_ok, binOp, he, Sem.run_pure], RV_b.2 rfl⟩
    all_goals cases H
  · cases H
theorem uO_ok {op : UnOp} {x : Value} {xv v : PV} (hx : RV fid γ h x xv) (H : uO op xv = some v) :
    ∃ z, (Op.unary op x).run P w = .ok z w ∧ RV fid γ h z v := by
  unfold uO at H
  split at H
  · rename_i k n
    rw [RV_i] at hx; subst hx
    split at H
    · injection H with H; subst H; exact ⟨_, by simp only [Op.unary, Op.intArith, Sem.run_pure], RV_i.2 rfl⟩
    · simp only [binI, Option.some.injEq] at H; subst H; exact ⟨_, by simp only [Op.unary, Op.intBits, Sem.run_pure], RV_i.2 rfl⟩
    · cases H
  · rename_i b
    rw [RV_b] at hx; subst hx
    split at H
    · injection H with H; subst H; exact ⟨_, by simp only [Op.unary, Sem.run_pure], RV_b.2 rfl⟩
    · cases H
  · rename_i o n
    split at H
    · injection H with H
      subst H
      simp only [RV, RAt] at hx
      obtain ⟨i, h1, h2, b, h3, h4⟩ := hx
      have hb : x = .bool b := by simpa using h3
      subst hb
      refine ⟨.bool (!b), by simp only [Op.unary, Sem.run_pure], ?_⟩
      simp only [RV, RAt]
      exact ⟨i, h1, h2, !b, by simp, fun e => by rw [h4 e]⟩
    · cases H
  · cases H
theorem cv_ok {x : Value} {xv v : PV} {k : IntKind} {src dst : TypeId} {k0 : IntKind} (hx : RV fid γ h x xv) (hs : P.underlying src = some (.int k0)) (hd : P.underlying dst = some (.int k)) (H : cv k xv = some v) :
    ∃ z, (convert src dst x).run P w = .ok z w ∧ RV fid γ h z v := by
  unfold cv at H
  split at H
  · rename_i k' n
    rw [RV_i] at hx; subst hx
    injection H with H; subst H
    exact ⟨_, by simp only [convert, Sem.run_bind, run_underlying' hs, run_underlying' hd, Result.andThen_ok, Conv.intToInt, Sem.run_pure], RV_i.2 rfl⟩
  · cases H
theorem ext_ok {x : Value} {xv v : PV} {k : Nat} (hx : RV fid γ h x xv) (H : ext k xv = some v) :
    ∃ z, (Instr.extract x k).run P w = .ok z w ∧ RV fid γ h z v := by
  unfold ext at H
  split at H
  · rename_i vs
    rw [RV_tup] at hx
    obtain ⟨arr, rfl, hs, hl⟩ := hx
    obtain ⟨y, hy, hv⟩ := RL_get k v hl H
    rw [Nat.zero_add] at hy
    exact ⟨y, by simp only [Instr.extract, hy, Sem.run_pure], hv⟩
  · cases H
theorem nc_ok {x : Value} {xv v : PV} (hx : RV fid γ h x xv) (H : nc xv = some v) : v = xv ∧ (∃ a, x = .pointer (some a)) ∨ v = xv ∧ ∃ f a b, x = .func (.func f) a b := by
  unfold nc at H
  split at H
  · injection H with H; subst H
    obtain ⟨_, _, _, a, e, _⟩ := RV_p.1 hx
    exact .inl ⟨rfl, a, e⟩
  · injection H with H; subst H
    obtain ⟨b, o, cs, e, _⟩ := RV_q.1 hx
    exact .inl ⟨rfl, _, e⟩
  · injection H with H; subst H
    obtain ⟨f0, a1, a2, e, _⟩ := RV_fn.1 hx
    exact .inr ⟨rfl, f0, a1, a2, e⟩
  · cases H
theorem fA_ok {x : Value} {xv v : PV} {t : TypeId} {fs : Array Field} {f : Nat} {fd : Field} (hx : RV fid γ h x xv) (ht : P.underlying t = some (.struct fs)) (hf : fs[f]? = some fd) (hn : P.cellsOf fd.type ≠ 0) (H : fA fd.offset xv = some v) :
    ∃ z, (Instr.fieldAt t x f).run P w = .ok z w ∧ RV fid γ h z v := by
  have hk : ∃ i, P.info? fd.type = some i := by
    cases hi : P.info? fd.type with
    | some i => exact ⟨i, rfl⟩
    | none => simp [Program.cellsOf, hi] at hn
  obtain ⟨i, hi⟩ := hk
  have hsz : i.size ≠ 0 := by simpa [Program.cellsOf, hi] using hn
  have hp : ∀ a : Addr, (Instr.fieldAt t (.pointer (some a)) f).run P w = .ok (.pointer (some (a.add fd.offset))) w := by
    intro a
    simp [Instr.fieldAt, run_underlying' ht, hf, Instr.sureAddr, fieldPlace, sizeOf, typeInfo, hi, hsz]
  unfold fA at H
  split at H
  · rename_i o ver j off'
    injection H with H; subst H
    rw [RV_p] at hx
    obtain ⟨I, hI, hv, a, rfl, ha⟩ := hx
    refine ⟨_, hp a, RV_p.2 ⟨I, hI, hv, _, rfl, fun e => ?_⟩⟩
    obtain ⟨b, hb, rfl⟩ := ha e
    exact ⟨b, hb, by rw [add_none]; simp⟩
  · rename_i g xs
    cases hd : dropW xs fd.offset with
    | none => simp [hd, qO] at H
    | some r =>
      simp only [hd, qO, Option.some.injEq] at H; subst H
      rw [RV_q] at hx
      obtain ⟨b, o, cs, rfl, hq, hr, hc⟩ := hx
      obtain ⟨pre, e, hpre⟩ := dropW_suf hd
      rw [e, PCells_app, hpre] at hc
      exact ⟨_, hp _, RV_q.2 ⟨b, o + fd.offset, cs, by rw [add_none]; simp, hq, hr, hc.2⟩⟩
  · cases H
theorem part_ok {t : TypeId} {d : TypeDesc} (ht : P.underlying t = some d) {cs : Array Value} {off : Nat} {l : List PV} (hl : RCells fid γ h cs off l) (hb : off + wds l ≤ cs.size) :
    (∀ v, aggT P t = true → aggO (takeO (some l) (P.cellsOf t)) = some v → ∃ z, (part t cs off).run P w = .ok z w ∧ RV fid γ h z v) ∧
    (∀ v, aggT P t = false → hd1 (some l) = some v → ∃ z, (part t cs off).run P w = .ok z w ∧ RV fid γ h z v) := by
  refine ⟨fun v ha H => ?_, fun v ha H => ?_⟩
  · obtain ⟨cells, fr, hc, htk, rfl⟩ := aggO_takeO H
    injection hc with hc; subst hc
    obtain ⟨c, e, hw⟩ := takeW_pre htk
    refine ⟨.agg (cs.extract off (off + P.cellsOf t)), ?_, RV_agg.2 ⟨_, rfl, ?_, ?_⟩⟩
    · simp [part, run_isAgg' ht, ha, run_sizeOf' ht]
    · have : wds l = P.cellsOf t + wds c := by rw [e, wds_app, hw]
      rw [hw]; simp; omega
    · have : wds l = P.cellsOf t + wds c := by rw [e, wds_app, hw]
      rw [e, RCells_app] at hl
      refine RCells_at ?_ hl.1
      intro i y hi hy
      rw [hw] at hi
      rw [Nat.zero_add, getElem?_extract' hi (by omega)]
      exact hy
  · obtain ⟨r, hr, hw⟩ := hd1_ok H
    injection hr with hr; subst hr
    simp only [wds, hw] at hb
    simp only [RCells] at hl
    have e : cs[off]? = some (cs[off]'(by omega)) := Array.getElem?_eq_getElem (by omega)
    exact ⟨_, by simp [part, run_isAgg' ht, ha, e], RV.of e (by omega) hl.1.2⟩
theorem fV_ok {x : Value} {xv v : PV} {t : TypeId} {fs : Array Field} {f : Nat} {fd : Field} (hx : RV fid γ h x xv) (ht : P.underlying t = some (.struct fs)) (hf : fs[f]? = some fd) (hk : known P fd.type = true)
    (H : fV fd.offset (P.cellsOf fd.type) (aggT P fd.type) xv = some v) : ∃ z, (Instr.field t x f).run P w = .ok z w ∧ RV fid γ h z v := by
  obtain ⟨d, hd⟩ := known_some hk
  unfold fV at H
  split at H
  · rename_i cs
    rw [RV_agg] at hx
    obtain ⟨arr, rfl, hs, hc⟩ := hx
    cases hdr : dropW cs fd.offset with
    | none => simp [hdr, takeO, aggO, hd1] at H
    | some r =>
      obtain ⟨pre, e, hpre⟩ := dropW_suf hdr
      rw [e, RCells_app, hpre] at hc
      have hb : fd.offset + wds r ≤ arr.size := by rw [hs, e, wds_app, hpre]; omega
      obtain ⟨h1, h2⟩ := part_ok (P := P) (w := w) hd (by simpa using hc.2) hb
      have hrun : (Instr.field t (.agg arr) f).run P w = (part fd.type arr fd.offset).run P w := by
        simp [Instr.field, run_underlying' ht, hf, asAgg]
      rw [hrun]
      rw [hdr] at H
      cases ha : aggT P fd.type with
      | true => rw [ha] at H; exact h1 v ha H
      | false =>
        rw [ha] at H
        simp only [Bool.false_eq_true, if_false] at H
        split at H
        · exact h2 v ha H
        · cases H
  · cases H
end
end
section
open Go
section
variable {P : Program} {C : Ctx} {γ : Gh} {w : World} {act : Act} {sl : SL} {ob : OB}
theorem len_ok {x : Value} {xv v : PV} {t ty e : TypeId} {at' : Array TypeId} (hx : RV C.fid γ w.heap x xv) (ht : P.underlying t = some (.slice e)) (h0 : at'[0]? = some t) (H : len xv = some v) :
    ∃ z, (Builtin.len_ at' ty #[x]).run P w = .ok z w ∧ RV C.fid γ w.heap z v := by
  have hs : ∀ {a : Option Addr} {m c : Nat}, (Builtin.len_ at' ty #[.slice a m c]).run P w = .ok (goInt m) w := by
    intro a m c
    simp [Builtin.len_, h0, run_underlying' ht]
  unfold len at H
  split at H
  · injection H with H; subst H
    obtain ⟨a, c, e, _⟩ := RV_l.1 hx
    exact ⟨_, by rw [e]; exact hs, RV_i.2 rfl⟩
  · injection H with H; subst H
    obtain ⟨a, c, e, _⟩ := RV_l.1 (RV_ln.1 hx).1
    exact ⟨_, by rw [e]; exact hs, RV_i.2 rfl⟩
  · injection H with H; subst H
    obtain ⟨a, e, _⟩ := RV_e.1 hx
    exact ⟨_, by rw [e]; exact hs, RV_i.2 rfl⟩
  · injection H with H; subst H
    obtain ⟨_, _, _, a, c, e, _⟩ := RV_sl.1 hx
    exact ⟨_, by rw [e]; exact hs, RV_i.2 rfl⟩
  · injection H with H; subst H
    obtain ⟨_, _, a, c, e, _⟩ := RV_bs.1 hx
    exact ⟨_, by rw [e]; exact hs, RV_i.2 rfl⟩
  · cases H
theorem lenS_ok {x : Value} {xv v : PV} {t ty : TypeId} {at' : Array TypeId} (hx : RV C.fid γ w.heap x xv) (ht : P.underlying t = some .string) (h0 : at'[0]? = some t) (H : lenS xv = some v) :
    ∃ z, (Builtin.len_ at' ty #[x]).run P w = .ok z w ∧ RV C.fid γ w.heap z v := by
  unfold lenS at H
  split at H
  · injection H with H; subst H
    obtain ⟨s, e, hs⟩ := RV_s.1 hx
    refine ⟨goInt s.size, by rw [e]; simp [Builtin.len_, h0, run_underlying' ht], RV_i.2 ?_⟩
    rw [← hs, Array.length_toList]; rfl
  · cases H
theorem xVs_ok {x y : Value} {xv yv v : PV} {t : TypeId} (hx : RV C.fid γ w.heap x xv) (hy : RV C.fid γ w.heap y yv) (ht : P.underlying t = some .string) (H : xVs xv yv = some v) :
    ∃ z, (Instr.index t x y).run P w = .ok z w ∧ RV C.fid γ w.heap z v := by
  unfold xVs at H
  split at H
  · rename_i l k i
    obtain ⟨s, rfl, hs⟩ := RV_s.1 hx
    rw [RV_i] at hy; subst hy
    split at H
    · rename_i hi
      cases hc : l[i.toNat]? with
      | none => simp [hc, chO] at H
      | some c =>
        simp only [hc, chO, Option.some.injEq] at H; subst H
        have e : s[i.toNat]? = some c := by
          rw [← hs] at hc
          have hlt : i.toNat < s.data.toList.length := (List.getElem?_eq_some_iff.1 hc).1
          rw [Array.length_toList] at hlt
          have hlt' : i.toNat < s.size := hlt
          rw [getElem?_pos s i.toNat hlt']
          rw [Array.getElem?_toList, Array.getElem?_eq_getElem hlt] at hc
          exact hc
        exact ⟨.int .u8 c.toNat, by simp [Instr.index, asIntOf, run_underlying' ht, hi, e], RV_i.2 rfl⟩
    · cases H
  · cases H
theorem xV_ok {x y : Value} {xv yv v : PV} {t e : TypeId} {n : Nat} (hx : RV C.fid γ w.heap x xv) (hy : RV C.fid γ w.heap y yv) (ht : P.underlying t = some (.array n e)) (hk : known P e = true)
    (H : xV n (P.cellsOf e) (aggT P e) xv yv = some v) : ∃ z, (Instr.index t x y).run P w = .ok z w ∧ RV C.fid γ w.heap z v := by
  obtain ⟨d, hd⟩ := known_some hk
  unfold xV at H
  split at H
  · rename_i m xs k i
    obtain ⟨arr, rfl, hs, hc⟩ := RV_agg.1 hx
    rw [RV_i] at hy; subst hy
    split at H
    · rename_i hi
      obtain ⟨h0, h1, hm⟩ := hi
      have hlt : i.toNat < n := by omega
      have hmul : i.toNat * P.cellsOf e + P.cellsOf e ≤ n * P.cellsOf e := by
        have := Nat.mul_le_mul_right (P.cellsOf e) (show i.toNat + 1 ≤ n by omega)
        rwa [Nat.succ_mul] at this
      simp only [wds, wd, Nat.add_zero] at hs
      simp only [RCells, RAt] at hc
      have hrun : (Instr.index t (.agg arr) (.int k i)).run P w = (part e arr (i.toNat * P.cellsOf e)).run P w := by
        simp [Instr.index, asIntOf, run_underlying' ht, h0, h1, run_sizeOf' hd]
      rw [hrun]
      cases ha : aggT P e with
      | false =>
        simp only [ha, if_true] at H
        split at H
        · rename_i hw
          obtain ⟨y, hy, hv⟩ := hc.1.2.2 i.toNat v H
          rw [Nat.zero_add] at hy
          exact ⟨y, by simp [part, run_isAgg' hd, ha, hw, hy], RV_scal (scalR_scal hv) hv⟩
        · cases H
      | true =>
        simp only [ha, Bool.true_eq_false, if_false, Option.some.injEq] at H; subst H
        refine ⟨.agg (arr.extract (i.toNat * P.cellsOf e) (i.toNat * P.cellsOf e + P.cellsOf e)), by simp [part, run_isAgg' hd, ha, run_sizeOf' hd], RV_agg.2 ⟨_, rfl, ?_, ?_⟩⟩
        · simp only [wds, wd, Nat.add_zero, Array.size_extract]; omega
        · simp only [RCells, RAt, and_true]
          refine ⟨rfl, by have := hc.1.2.1; simp only [List.length_take, List.length_drop]; omega, fun j u hj => ?_⟩
          have hjl : j < P.cellsOf e := by
            have := (List.getElem?_eq_some_iff.1 hj).1
            simp only [List.length_take] at this; omega
          rw [List.getElem?_take_of_lt hjl, List.getElem?_drop] at hj
          obtain ⟨y, hy, hv⟩ := hc.1.2.2 _ u hj
          refine ⟨y, ?_, hv⟩
          rw [Nat.zero_add, getElem?_extract' hjl (by omega)]
          rw [Nat.zero_add] at hy; exact hy
    · cases H
  · cases H
theorem cp_ok (S : St C γ w act.tmps sl ob) {x : Value} {xv v : PV} {t ty e : TypeId} {at' : Array TypeId} (hx : RV C.fid γ w.heap x xv) (ht : P.underlying t = some (.slice e)) (h0 : at'[0]? = some t) (H : cp ob xv = some v) :
    ∃ z, (Builtin.cap_ at' ty #[x]).run P w = .ok z w ∧ RV C.fid γ w.heap z v := by
  have hs : ∀ {a : Option Addr} {m c : Nat}, (Builtin.cap_ at' ty #[.slice a m c]).run P w = .ok (goInt c) w := by
    intro a m c
    simp [Builtin.cap_, h0, run_underlying' ht]
  unfold cp at H
  split at H
  · injection H with H; subst H
    obtain ⟨a, e, _⟩ := RV_e.1 hx
    exact ⟨_, by rw [e]; exact hs, RV_i.2 rfl⟩
  · rename_i o ver lo n
    obtain ⟨I, hI, hv, a, c, e, hh⟩ := RV_sl.1 hx
    unfold cpO at H
    split at H
    · rename_i y hy
      split at H
      · rename_i hver
        obtain ⟨I', hI', h1, h2, h3, h4⟩ := S.obj o y hy
        rw [hI] at hI'; injection hI' with hI'; subst hI'
        obtain ⟨g1, g2, g3⟩ := hh (by omega)
        cases hc : y.cap with
        | none => simp [hc, capI] at H
        | some cc =>
          simp only [hc, capI, Option.some.injEq] at H; subst H
          have := h2 cc hc
          exact ⟨_, by rw [e]; exact hs, RV_i.2 (by simp only [goInt, Value.int.injEq, true_and]; omega)⟩
      · cases H
    · cases H
  · cases H
theorem mnI_ok {x y : Value} {xv yv v : PV} {ty : TypeId} {at' : Array TypeId} (hx : RV C.fid γ w.heap x xv) (hy : RV C.fid γ w.heap y yv) (H : mnI xv yv = some v) :
    ∃ z, (Builtin.min_ at' ty #[x, y]).run P w = .ok z w ∧ RV C.fid γ w.heap z v := by
  unfold mnI at H
  split at H
  · rw [RV_i] at hx hy; subst hx; subst hy
    split at H
    · injection H with H; subst H; exact ⟨_, by simp [Builtin.min_, Builtin.min2], RV_i.2 rfl⟩
    · cases H
  · cases H
theorem mxI_ok {x y : Value} {xv yv v : PV} {ty : TypeId} {at' : Array TypeId} (hx : RV C.fid γ w.heap x xv) (hy : RV C.fid γ w.heap y yv) (H : mxI xv yv = some v) :
    ∃ z, (Builtin.max_ at' ty #[x, y]).run P w = .ok z w ∧ RV C.fid γ w.heap z v := by
  unfold mxI at H
  split at H
  · rw [RV_i] at hx hy; subst hx; subst hy
    split at H
    · injection H with H; subst H; exact ⟨_, by simp [Builtin.max_, Builtin.max2], RV_i.2 rfl⟩
    · cases H
  · cases H
theorem eNs_ok {neg : Bool} {x : Value} {xv v : PV} (S : St C γ w act.tmps sl ob) (hx : RV C.fid γ w.heap x xv) (H : eNs neg ob xv = some v) :
    ∃ r, (v = .b (r ^^ neg) ∨ v = .ub) ∧ ∃ a n c, x = .slice a n c ∧ a.isNone = r := by
  unfold eNs at H
  split at H
  · injection H with H; subst H
    obtain ⟨_, a, n, c, e⟩ := RV_ln.1 hx
    exact ⟨false, by simp, _, _, _, e, rfl⟩
  · rename_i g xs
    injection H with H; subst H
    obtain ⟨a, c, e, _, hh⟩ := RV_l.1 hx
    cases xs with
    | nil => exact ⟨a.isNone, .inr rfl, a, _, c, e, rfl⟩
    | cons y ys =>
      rcases hh with hh | ⟨b, o, w', cs', ea, _⟩
      · cases hh
      · exact ⟨false, .inl (by simp [eNl]), a, _, c, e, by rw [ea]; rfl⟩
  · rename_i nl
    injection H with H; subst H
    obtain ⟨a, e, ha⟩ := RV_e.1 hx
    refine ⟨nl, .inl rfl, _, _, _, e, ?_⟩
    cases a <;> cases nl <;> simp_all
  · rename_i o ver lo n
    unfold eNX at H
    split at H
    · rename_i y hy
      split at H
      · rename_i hc
        injection H with H; subst H
        obtain ⟨I, hI, hv, a, c, e, hh⟩ := RV_sl.1 hx
        obtain ⟨I', hI', h1, _⟩ := S.obj o y hy
        rw [hI] at hI'; injection hI' with hI'; subst hI'
        obtain ⟨g1, g2, g3⟩ := hh (by omega)
        obtain ⟨b, hb, ea⟩ := g3 (by omega)
        exact ⟨false, by simp, a, _, _, e, by rw [ea]; rfl⟩
      · cases H
    · cases H
  · cases H
theorem eNp_ok {neg : Bool} {x : Value} {xv v : PV} (hx : RV C.fid γ w.heap x xv) (H : eNp neg xv = some v) : ∃ r, v = .b (r ^^ neg) ∧ ∃ a, x = .pointer a ∧ a.isNone = r := by
  unfold eNp at H
  split at H
  · injection H with H; subst H
    rw [RV_np] at hx
    exact ⟨true, by simp, none, hx, rfl⟩
  · injection H with H; subst H
    obtain ⟨_, _, _, a, e, _⟩ := RV_p.1 hx
    exact ⟨false, by simp, _, e, rfl⟩
  · injection H with H; subst H
    obtain ⟨b, o, cs, e, _⟩ := RV_q.1 hx
    exact ⟨false, by simp, _, e, rfl⟩
  · cases H
theorem eNf_ok {neg : Bool} {x : Value} {xv v : PV} (hx : RV C.fid γ w.heap x xv) (H : eNf neg xv = some v) : ∃ r, v = .b (r ^^ neg) ∧ ((x = .nilFunc ∧ r = true) ∨ ∃ f a b, x = .func f a b ∧ r = false) := by
  unfold eNf at H
  split at H
  · injection H with H; subst H
    obtain ⟨f0, a1, a2, e, _⟩ := RV_fn.1 hx
    exact ⟨false, by simp, .inr ⟨_, _, _, e, rfl⟩⟩
  · injection H with H; subst H
    rw [RV_nf] at hx
    exact ⟨true, by simp, .inl ⟨hx, rfl⟩⟩
  · cases H
def SliceR (γ : Gh) (h : Array Obj) (x : Value) (g : Bool) (ys : List (List PV)) : Prop :=
  ∃ a c, x = .slice a ys.length c ∧ ys.length ≤ c ∧ (ys = [] ∨ ∃ b o w' cs', a = some ⟨b, o, none⟩ ∧ rowAt h b cs' ∧ PEls h (γ.q g) cs' w' o ys)
theorem PEls_sub {h : Array Obj} {q : Nat → Prop} {cs : Array Value} {w' off : Nat} {l : List (List PV)} (H : PEls h q cs w' off l) (lo n : Nat) : PEls h q cs w' (off + lo * w') ((l.drop lo).take n) :=
  PEls_of fun i x hx => by
    have hi : i < n := by
      have := (List.getElem?_eq_some_iff.1 hx).1
      simp only [List.length_take] at this; omega
    rw [List.getElem?_take_of_lt hi, List.getElem?_drop] at hx
    have := PEls_get H _ x hx
    rwa [Nat.add_mul, ← Nat.add_assoc] at this
theorem contX_ok {γ : Gh} (S : St C γ w act.tmps sl ob) {x : Value} {o ver lo n : Nat} {r : Bool × List (List PV)} (hx : RV C.fid γ w.heap x (.sl o ver lo n)) (H : contX (getO ob o) ver lo n = some r) : SliceR γ w.heap x r.1 r.2 ∧ r.2.length = n := by
  cases hy : getO ob o with
  | none => simp [hy, contX] at H
  | some y =>
    simp only [hy, contX] at H
    split at H
    · rename_i hc
      obtain ⟨hp, hver, hlen⟩ := hc
      injection H with H; subst H
      obtain ⟨I, hI, hv, a, c, e, hh⟩ := RV_sl.1 hx
      obtain ⟨I', hI', h1, h2, h3, h4⟩ := S.obj o y hy
      rw [hI] at hI'; injection hI' with hI'; subst hI'
      obtain ⟨g1, g2, g3⟩ := hh (by omega)
      have hl : ((y.els.drop lo).take n).length = n := by simp; omega
      refine ⟨⟨a, c, by rw [e, hl], Nat.le_trans (Nat.le_of_eq hl) g2, ?_⟩, hl⟩
      rcases Nat.eq_zero_or_pos n with h0 | hpos
      · left; subst h0; simp
      · right
        obtain ⟨b, hb, ea⟩ := g3 (by omega)
        simp only [hb] at h4
        obtain ⟨hw, cs, hown, hsz, hels⟩ := h4
        replace hown := (hown.cells (.inr hp)).2
        rcases hels with ⟨_, hels⟩ | ⟨hp', _⟩
        · refine ⟨b, _, I.w, cs, ea, hown.row, ?_⟩
          have := PEls_sub hels lo n
          rwa [Nat.zero_add] at this
        · rw [hp] at hp'; cases hp'
    · cases H
theorem contL_ok (S : St C γ w act.tmps sl ob) {x : Value} {xv : PV} {r : Bool × List (List PV)} (hx : RV C.fid γ w.heap x xv) (H : contL ob xv = some r) : SliceR γ w.heap x r.1 r.2 := by
  have hl : ∀ {g xs}, RV C.fid γ w.heap x (.l g xs) → SliceR γ w.heap x g xs := by
    intro g xs hx
    obtain ⟨a, c, e, hc, h⟩ := RV_l.1 hx
    exact ⟨a, c, e, hc, h.imp id fun ⟨b, o, w', cs', h1, _, h3, h4⟩ => ⟨b, o, w', cs', h1, h3, h4⟩⟩
  unfold contL at H
  split at H
  · injection H with H; subst H; exact hl hx
  · injection H with H; subst H; exact hl (RV_ln.1 hx).1
  · injection H with H; subst H
    obtain ⟨a, e, _⟩ := RV_e.1 hx
    exact ⟨a, 0, e, by simp, .inl rfl⟩
  · exact (contX_ok S hx H).1
  · rename_i o off lo n
    cases hb : blobAt (atO (getO ob o) 0 0 off) with
    | none => simp [hb, contB] at H
    | some xs =>
      simp only [hb, contB] at H
      split at H
      · rename_i hlen
        injection H with H; subst H
        obtain ⟨m, rr, hr⟩ := blobAt_ok hb
        obtain ⟨I, hI, a, c, e, hn, hh⟩ := RV_bs.1 hx
        have hver : I.ver = 0 := by
          cases ho : getO ob o with
          | none => simp [ho, atO] at hr
          | some X =>
            simp only [ho, atO] at hr
            split at hr
            · rename_i hver
              obtain ⟨I', hI', h1, _⟩ := S.obj o X ho
              rw [hI] at hI'; injection hI' with hI'; subst hI'
              omega
            · cases hr
        have hl : (((xs.drop lo).take n).map fun v => [v]).length = n := by simp; omega
        refine ⟨some a, c, by rw [e, hl], Nat.le_trans (Nat.le_of_eq hl) hn, ?_⟩
        rcases Nat.eq_zero_or_pos n with h0 | hpos
        · left; subst h0; simp
        · right
          obtain ⟨b, hb', ea⟩ := hh hver.symm (by omega)
          have hx' : RV C.fid γ w.heap (.pointer (some ⟨b, off, none⟩)) (.p o 0 0 off none) := RV_p.2 ⟨I, hI, by omega, _, rfl, fun _ => ⟨b, hb', by simp⟩⟩
          obtain ⟨b2, o', cs, e2, hrow, hcs, hs⟩ := atO_ok S hx' hr
          injection e2 with e2; injection e2 with e2; injection e2 with e2 e3; subst e2; subst e3
          refine ⟨b, _, 1, cs, by rw [ea], hrow, PEls_of fun i y hy => ?_⟩
          have hi : i < n := by
            have := (List.getElem?_eq_some_iff.1 hy).1
            simp only [List.length_map, List.length_take] at this; omega
          rw [List.getElem?_map, List.getElem?_take_of_lt hi, List.getElem?_drop] at hy
          simp only [RCells, RAt] at hcs
          obtain ⟨u, hu, rfl⟩ := Option.map_eq_some_iff.1 hy
          obtain ⟨z, hz, hv⟩ := hcs.1.2.2 _ u hu
          have hsc := scalR_scal hv
          refine ⟨by simp only [wds]; cases u <;> simp_all [wd, scal], ?_⟩
          simp only [PCells, and_true, Nat.mul_one]
          rw [← Nat.add_assoc] at hz
          cases u <;> simp only [scal, Bool.false_eq_true] at hsc <;> simp only [scalR] at hv <;> simp only [PAt]
          · rw [hz, hv]
          · rw [hz, hv]
          · obtain ⟨s, e, h⟩ := hv; exact ⟨s, by rw [hz, e], h⟩
      · cases H
  · cases H
theorem xA_ok {x y : Value} {xv yv v : PV} {t e : TypeId} {n : Nat} (hx : RV C.fid γ w.heap x xv) (hy : RV C.fid γ w.heap y yv) (ht : P.underlying t = some (.array n e)) (h1 : P.cellsOf e = 1)
    (H : xA n xv yv = some v) : ∃ z, (Instr.indexAt t x y).run P w = .ok z w ∧ RV C.fid γ w.heap z v := by
  have hi : ∃ i, P.info? e = some i := by
    cases hi : P.info? e with
    | some i => exact ⟨i, rfl⟩
    | none => simp [Program.cellsOf, hi] at h1
  obtain ⟨i0, hi0⟩ := hi
  have hsz : i0.size = 1 := by simpa [Program.cellsOf, hi0] using h1
  have hr : ∀ {k : IntKind} {i : Int} {b o : Nat}, 0 ≤ i → i < n → (Instr.indexAt t (.pointer (some ⟨b, o, none⟩)) (.int k i)).run P w = .ok (.pointer (some ⟨b, o + i.toNat, none⟩)) w := by
    intro k i b o g0 g1
    simp [Instr.indexAt, asIntOf, run_underlying' ht, Instr.sureAddr, g0, g1, sizeOf, typeInfo, hi0, hsz, add_none]
  have hr' : ∀ {k : IntKind} {i : Int} {ad : Addr}, 0 ≤ i → i < n → (Instr.indexAt t (.pointer (some ad)) (.int k i)).run P w = .ok (.pointer (some (ad.add i.toNat))) w := by
    intro k i ad g0 g1
    simp [Instr.indexAt, asIntOf, run_underlying' ht, Instr.sureAddr, g0, g1, sizeOf, typeInfo, hi0, hsz]
  unfold xA at H
  split at H
  · rename_i o ver j off k i
    rw [RV_i] at hy; subst hy
    split at H
    · rename_i hc
      injection H with H; subst H
      obtain ⟨I, hI, hv, a, rfl, hh⟩ := RV_p.1 hx
      refine ⟨_, hr' hc.1 hc.2, RV_p.2 ⟨I, hI, hv, _, rfl, fun e => ?_⟩⟩
      obtain ⟨b, hb, rfl⟩ := hh e
      exact ⟨b, hb, by rw [add_none]; simp⟩
    · cases H
  · rename_i g m xs r k i
    rw [RV_i] at hy; subst hy
    split at H
    · rename_i hc
      injection H with H; subst H
      obtain ⟨b, o, cs, rfl, hq, hrow, hcs⟩ := RV_q.1 hx
      exact ⟨_, hr' hc.1 hc.2.1, RV_q.2 ⟨b, o, cs, by rw [add_none]; simp, hq, hrow, hcs⟩⟩
    · cases H
  · cases H
end
end
end Go.Proofs.Ytnkapponcbgbhaa
