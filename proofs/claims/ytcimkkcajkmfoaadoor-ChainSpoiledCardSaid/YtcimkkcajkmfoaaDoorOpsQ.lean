/-
  Numbers, fields, indices: what they yield is what the reading says.
-/
import Derived.Test.YtcimkkcajkmfoaaDoorOpsP
import Derived.Laws.StructEq
set_option linter.all false
namespace Go.Proofs.YtcimkkcajkmfoaaDoor
open Go

section
variable {P : Program} {fid : Nat → Nat} {γ : Gh} {h : Array Obj} {w : World}
theorem binI_ok {op : BinOp} {k : IntKind} {a b : Int} {v : PV} {t : TypeId} (hs : isShift op = false) (H : binI op k a b = some v) :
    ∃ y, (binOp op t (.int k a) (.int k b)).run P w = .ok y w ∧ RV fid γ h y v := by
  cases op <;> simp only [isShift, Bool.true_eq_false] at hs <;> simp only [binI] at H <;>
    first
      | (injection H with H; subst H; exact ⟨_, by simp [binOp, Op.intArith, Op.intBits, Op.intCmp]; rfl, by simp⟩)
      | (split at H
         · cases H
         · rename_i hb; injection H with H; subst H; exact ⟨_, by simp [binOp, Op.intDiv, hb]; rfl, by simp⟩)
      | cases H
theorem shiftI_ok {op : BinOp} {k k' : IntKind} {a b : Int} {v : PV} {t : TypeId} (hs : isShift op = true) (H : shiftI op k a b = some v) :
    ∃ y, (binOp op t (.int k a) (.int k' b)).run P w = .ok y w ∧ RV fid γ h y v := by
  unfold shiftI at H
  split at H
  · cases H
  · rename_i hb
    cases op <;> simp only [isShift, Bool.false_eq_true] at hs <;> simp only at H <;> injection H with H <;> subst H <;>
      exact ⟨_, by simp [binOp, Op.shift, hb]; rfl, by simp⟩
theorem str_beq {a b : ByteArray} {x y : List UInt8} (ha : a.data.toList = x) (hb : b.data.toList = y) : (a.toList == b.toList) = decide (x = y) := by
  rw [ByteArray.toList_eq, ByteArray.toList_eq, ha, hb]; by_cases e : x = y <;> simp [e]
theorem bi_ok {op : BinOp} {x y : Value} {xv yv v : PV} {t : TypeId} (hx : RV fid γ h x xv) (hy : RV fid γ h y yv) (_hp : plainT P t = true) (H : bi op xv yv = some v) (a b : Operand) :
    ∃ z, (do eqGuard op t a b x y; binOp op t x y : Sem Value).run P w = .ok z w ∧ RV fid γ h z v := by
  unfold bi at H
  split at H
  · rename_i k m k' n
    rw [RV_i] at hx hy; subst hx; subst hy
    have hg : (eqGuard op t a b (.int k m) (.int k' n)).run P w = .ok () w := by cases op <;> simp [eqGuard]
    split at H
    · rename_i hs
      obtain ⟨z, h1, h2⟩ := shiftI_ok (P := P) (w := w) (t := t) (k' := k') (fid := fid) (γ := γ) (h := h) hs H
      exact ⟨z, by simp only [Sem.run_bind, hg, Result.andThen_ok, h1], h2⟩
    · rename_i hs
      split at H
      · rename_i hk; subst hk
        obtain ⟨z, h1, h2⟩ := binI_ok (P := P) (w := w) (t := t) (fid := fid) (γ := γ) (h := h) (by simpa using hs) H
        exact ⟨z, by simp only [Sem.run_bind, hg, Result.andThen_ok, h1], h2⟩
      · cases H
  · rename_i p q
    rw [RV_s] at hx hy
    obtain ⟨s, rfl, hs⟩ := hx
    obtain ⟨u, rfl, hu⟩ := hy
    have hg : (eqGuard op t a b (.string s) (.string u)).run P w = .ok () w := by cases op <;> simp [eqGuard]
    cases op <;> simp only at H
    case eql =>
      injection H with H; subst H
      refine ⟨.bool (s.toList == u.toList), ?_, ?_⟩
      · simp only [Sem.run_bind, hg, Result.andThen_ok, binOp, Op.stringOp, Sem.run_pure]
      · rw [str_beq hs hu]; exact RV_b.2 rfl
    case neq =>
      injection H with H; subst H
      refine ⟨.bool (!(s.toList == u.toList)), ?_, ?_⟩
      · simp only [Sem.run_bind, hg, Result.andThen_ok, binOp, Op.stringOp, Sem.run_pure]
      · rw [str_beq hs hu]; exact RV_b.2 rfl
    case add =>
      split at H
      · rename_i hl
        injection H with H; subst H
        have h1 : s.size = p.length := by rw [← hs, Array.length_toList]; rfl
        have h2 : u.size = q.length := by rw [← hu, Array.length_toList]; rfl
        refine ⟨.string (s ++ u), ?_, RV_s.2 ⟨_, rfl, ?_⟩⟩
        · have : ¬ (((s.size + u.size : Nat) : Int) > IntKind.i64.max) := by
            rw [h1, h2]; simp only [two32] at hl; simp [IntKind.max, IntKind.bits, IntKind.signed]; omega
          simp only [Sem.run_bind, hg, Result.andThen_ok, binOp, Op.stringOp, if_neg this, Sem.run_pure]
        · rw [← hs, ← hu]; simp
      · cases H
    all_goals cases H
  · cases H
theorem biB_ok {op : BinOp} {x y : Value} {xv yv v : PV} {t : TypeId} (hx : RV fid γ h x xv) (hy : RV fid γ h y yv) (hp : boolT P t = true) (H : biB op xv yv = some v) (a b : Operand) :
    ∃ z, (do eqGuard op t a b x y; binOp op t x y : Sem Value).run P w = .ok z w ∧ RV fid γ h z v := by
  have hu : P.underlying t = some .bool := by unfold boolT at hp; split at hp <;> simp_all
  unfold biB at H
  split at H
  · rename_i p q
    rw [RV_b] at hx hy; subst hx; subst hy
    have hg : (eqGuard op t a b (.bool p) (.bool q)).run P w = .ok () w := by cases op <;> simp [eqGuard]
    have he : (Op.equal t (.bool p) (.bool q)).run P w = .ok (p == q) w := run_equalIn_bool' w 9999 t p q hu
    cases op <;> simp only at H
    case eql =>
      injection H with H; subst H
      exact ⟨.bool (p == q), by simp only [Sem.run_bind, hg, Result.andThen_ok, binOp, he, Sem.run_pure], RV_b.2 rfl⟩
    case neq =>
      injection H with H; subst H
      exact ⟨.bool (!(p == q)), by simp only [Sem.run_bind, hg, Result.andThen_ok, binOp, he, Sem.run_pure], RV_b.2 rfl⟩
    all_goals cases H
  · cases H
theorem uO_ok {op : UnOp} {x : Value} {xv v : PV} (hx : RV fid γ h x xv) (H : uO op xv = some v) :
    ∃ z, (Op.unary op x).run P w = .ok z w ∧ RV fid γ h z v := by
  unfold uO at H
  split at H
  · rename_i k n
    rw [RV_i] at hx; subst hx
    split at H
    · injection H with H; subst H; exact ⟨_, by simp only [Op.unary, Op.intArith, Sem.run_pure], RV_i.2 rfl⟩
    · simp only [binI, Option.some.injEq] at H; subst H; exact ⟨_, by simp only [Op.unary, Op.intBits, Sem.run_pure], RV_i.2 rfl⟩
    · cases H
  · rename_i b
    rw [RV_b] at hx; subst hx
    split at H
    · injection H with H; subst H; exact ⟨_, by simp only [Op.unary, Sem.run_pure], RV_b.2 rfl⟩
    · cases H
  · rename_i o n
    split at H
    · injection H with H
      subst H
      simp only [RV, RAt] at hx
      obtain ⟨i, h1, h2, b, h3, h4⟩ := hx
      have hb : x = .bool b := by simpa using h3
      subst hb
      refine ⟨.bool (!b), by simp only [Op.unary, Sem.run_pure], ?_⟩
      simp only [RV, RAt]
      exact ⟨i, h1, h2, !b, by simp, fun e => by rw [h4 e]⟩
    · cases H
  · cases H
theorem cv_ok {x : Value} {xv v : PV} {k : IntKind} {src dst : TypeId} {k0 : IntKind} (hx : RV fid γ h x xv) (hs : P.underlying src = some (.int k0)) (hd : P.underlying dst = some (.int k)) (H : cv k xv = some v) :
    ∃ z, (convert src dst x).run P w = .ok z w ∧ RV fid γ h z v := by
  unfold cv at H
  split at H
  · rename_i k' n
    rw [RV_i] at hx; subst hx
    injection H with H; subst H
    exact ⟨_, by simp only [convert, Sem.run_bind, run_underlying' hs, run_underlying' hd, Result.andThen_ok, Conv.intToInt, Sem.run_pure], RV_i.2 rfl⟩
  · cases H
theorem ext_ok {x : Value} {xv v : PV} {k : Nat} (hx : RV fid γ h x xv) (H : ext k xv = some v) :
    ∃ z, (Instr.extract x k).run P w = .ok z w ∧ RV fid γ h z v := by
  unfold ext at H
  split at H
  · rename_i vs
    rw [RV_tup] at hx
    obtain ⟨arr, rfl, hs, hl⟩ := hx
    obtain ⟨y, hy, hv⟩ := RL_get k v hl H
    rw [Nat.zero_add] at hy
    exact ⟨y, by simp only [Instr.extract, hy, Sem.run_pure], hv⟩
  · cases H
theorem nc_ok {x : Value} {xv v : PV} (hx : RV fid γ h x xv) (H : nc xv = some v) : v = xv ∧ (∃ a, x = .pointer (some a)) ∨ v = xv ∧ ∃ f a b, x = .func (.func f) a b := by
  unfold nc at H
  split at H
  · injection H with H; subst H
    obtain ⟨_, _, _, a, e, _⟩ := RV_p.1 hx
    exact .inl ⟨rfl, a, e⟩
  · injection H with H; subst H
    obtain ⟨b, o, cs, e, _⟩ := RV_q.1 hx
    exact .inl ⟨rfl, _, e⟩
  · injection H with H; subst H
    obtain ⟨f0, a1, a2, e, _⟩ := RV_fn.1 hx
    exact .inr ⟨rfl, f0, a1, a2, e⟩
  · cases H
theorem fA_ok {x : Value} {xv v : PV} {t : TypeId} {fs : Array Field} {f : Nat} {fd : Field} (hx : RV fid γ h x xv) (ht : P.underlying t = some (.struct fs)) (hf : fs[f]? = some fd) (hn : P.cellsOf fd.type ≠ 0) (H : fA fd.offset xv = some v) :
    ∃ z, (Instr.fieldAt t x f).run P w = .ok z w ∧ RV fid γ h z v := by
  have hk : ∃ i, P.info? fd.type = some i := by
    cases hi : P.info? fd.type with
    | some i => exact ⟨i, rfl⟩
    | none => simp [Program.cellsOf, hi] at hn
  obtain ⟨i, hi⟩ := hk
  have hsz : i.size ≠ 0 := by simpa [Program.cellsOf, hi] using hn
  have hp : ∀ a : Addr, (Instr.fieldAt t (.pointer (some a)) f).run P w = .ok (.pointer (some (a.add fd.offset))) w := by
    intro a
    simp [Instr.fieldAt, run_underlying' ht, hf, Instr.sureAddr, fieldPlace, sizeOf, typeInfo, hi, hsz]
  unfold fA at H
  split at H
  · rename_i o ver j off'
    injection H with H; subst H
    rw [RV_p] at hx
    obtain ⟨I, hI, hv, a, rfl, ha⟩ := hx
    refine ⟨_, hp a, RV_p.2 ⟨I, hI, hv, _, rfl, fun e => ?_⟩⟩
    obtain ⟨b, hb, rfl⟩ := ha e
    exact ⟨b, hb, by rw [add_none]; simp⟩
  · rename_i g xs
    cases hd : dropW xs fd.offset with
    | none => simp [hd, qO] at H
    | some r =>
      simp only [hd, qO, Option.some.injEq] at H; subst H
      rw [RV_q] at hx
      obtain ⟨b, o, cs, rfl, hq, hr, hc⟩ := hx
      obtain ⟨pre, e, hpre⟩ := dropW_suf hd
      rw [e, PCells_app, hpre] at hc
      exact ⟨_, hp _, RV_q.2 ⟨b, o + fd.offset, cs, by rw [add_none]; simp, hq, hr, hc.2⟩⟩
  · cases H
theorem part_ok {t : TypeId} {d : TypeDesc} (ht : P.underlying t = some d) {cs : Array Value} {off : Nat} {l : List PV} (hl : RCells fid γ h cs off l) (hb : off + wds l ≤ cs.size) :
    (∀ v, aggT P t = true → aggO (takeO (some l) (P.cellsOf t)) = some v → ∃ z, (part t cs off).run P w = .ok z w ∧ RV fid γ h z v) ∧
    (∀ v, aggT P t = false → hd1 (some l) = some v → ∃ z, (part t cs off).run P w = .ok z w ∧ RV fid γ h z v) := by
  refine ⟨fun v ha H => ?_, fun v ha H => ?_⟩
  · obtain ⟨cells, fr, hc, htk, rfl⟩ := aggO_takeO H
    injection hc with hc; subst hc
    obtain ⟨c, e, hw⟩ := takeW_pre htk
    refine ⟨.agg (cs.extract off (off + P.cellsOf t)), ?_, RV_agg.2 ⟨_, rfl, ?_, ?_⟩⟩
    · simp [part, run_isAgg' ht, ha, run_sizeOf' ht]
    · have : wds l = P.cellsOf t + wds c := by rw [e, wds_app, hw]
      rw [hw]; simp; omega
    · have : wds l = P.cellsOf t + wds c := by rw [e, wds_app, hw]
      rw [e, RCells_app] at hl
      refine RCells_at ?_ hl.1
      intro i y hi hy
      rw [hw] at hi
      rw [Nat.zero_add, getElem?_extract' hi (by omega)]
      exact hy
  · obtain ⟨r, hr, hw⟩ := hd1_ok H
    injection hr with hr; subst hr
    simp only [wds, hw] at hb
    simp only [RCells] at hl
    have e : cs[off]? = some (cs[off]'(by omega)) := Array.getElem?_eq_getElem (by omega)
    exact ⟨_, by simp [part, run_isAgg' ht, ha, e], RV.of e (by omega) hl.1.2⟩
theorem fV_ok {x : Value} {xv v : PV} {t : TypeId} {fs : Array Field} {f : Nat} {fd : Field} (hx : RV fid γ h x xv) (ht : P.underlying t = some (.struct fs)) (hf : fs[f]? = some fd) (hk : known P fd.type = true)
    (H : fV fd.offset (P.cellsOf fd.type) (aggT P fd.type) xv = some v) : ∃ z, (Instr.field t x f).run P w = .ok z w ∧ RV fid γ h z v := by
  obtain ⟨d, hd⟩ := known_some hk
  unfold fV at H
  split at H
  · rename_i cs
    rw [RV_agg] at hx
    obtain ⟨arr, rfl, hs, hc⟩ := hx
    cases hdr : dropW cs fd.offset with
    | none => simp [hdr, takeO, aggO, hd1] at H
    | some r =>
      obtain ⟨pre, e, hpre⟩ := dropW_suf hdr
      rw [e, RCells_app, hpre] at hc
      have hb : fd.offset + wds r ≤ arr.size := by rw [hs, e, wds_app, hpre]; omega
      obtain ⟨h1, h2⟩ := part_ok (P := P) (w := w) hd (by simpa using hc.2) hb
      have hrun : (Instr.field t (.agg arr) f).run P w = (part fd.type arr fd.offset).run P w := by
        simp [Instr.field, run_underlying' ht, hf, asAgg]
      rw [hrun]
      rw [hdr] at H
      cases ha : aggT P fd.type with
      | true => rw [ha] at H; exact h1 v ha H
      | false =>
        rw [ha] at H
        simp only [Bool.false_eq_true, if_false] at H
        split at H
        · exact h2 v ha H
        · cases H
  · cases H
end
end Go.Proofs.YtcimkkcajkmfoaaDoor
