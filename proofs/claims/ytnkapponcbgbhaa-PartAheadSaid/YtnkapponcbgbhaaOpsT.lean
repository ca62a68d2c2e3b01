import Derived.Test.YtnkapponcbgbhaaOpsS
set_option linter.all false
namespace Go.Proofs.Ytnkapponcbgbhaa
open Go
section
variable {P : Program} {fid : Nat → Nat} {γ : Gh} {h : Array Obj}
theorem cellB_ok {v : Value} {p : PV} (H : cellB v p = true) : RV fid γ h v p ∧ wd p = 1 := by
  unfold cellB at H
  split at H
  · simp at H; subst H; exact ⟨RV_b.2 rfl, rfl⟩
  · simp at H; obtain ⟨rfl, rfl⟩ := H; exact ⟨RV_i.2 rfl, rfl⟩
  · simp at H; exact ⟨RV_s.2 ⟨_, rfl, H⟩, rfl⟩
  · exact ⟨RV_e.2 ⟨none, rfl, by simp⟩, rfl⟩
  · exact ⟨RV_np.2 rfl, rfl⟩
  · exact ⟨RV_nf.2 rfl, rfl⟩
  · exact ⟨RV_nm.2 rfl, rfl⟩
  · exact ⟨RV_ni.2 rfl, rfl⟩
  · cases H
theorem cellB_scal {v : Value} {p : PV} (H : cellB v p = true) (hs : scal p = true) : scalR p v := by
  have := (cellB_ok (fid := id) (γ := ⟨fun _ => none, fun _ => False, fun _ => False⟩) (h := #[]) H).1
  cases p <;> simp only [scal, Bool.false_eq_true] at hs
  · exact RV_b.1 this
  · exact RV_i.1 this
  · exact RV_s.1 this
theorem cellsB_blob {arr : Array Value} {off : Nat} {l : List Value} {xs : List PV} {n : Nat} (hl : (l.take n).length = n) (hx : xs.length = n)
    (H : ((l.take n).zip xs).all (fun x => scal x.2 && cellB x.1 x.2) = true) (ha : ∀ (i : Nat) v, l[i]? = some v → arr[off + i]? = some v) : blobR arr off xs := by
  intro i x hxi
  have hi : i < n := by have := (List.getElem?_eq_some_iff.1 hxi).1; omega
  have h1 : (l.take n)[i]? = some ((l.take n)[i]'(by omega)) := List.getElem?_eq_getElem (by omega)
  have h2 : ((l.take n).zip xs)[i]? = some ((l.take n)[i]'(by omega), x) := by
    rw [List.getElem?_zip_eq_some]; exact ⟨h1, hxi⟩
  have h3 := List.all_eq_true.1 H _ (List.mem_of_getElem? h2)
  simp only [Bool.and_eq_true] at h3
  refine ⟨(l.take n)[i]'(by omega), ha i _ ?_, cellB_scal h3.2 h3.1⟩
  rw [List.getElem?_take_of_lt hi] at h1
  exact h1
theorem cellB_V {v : Value} {p : PV} (H : cellB v p = true) : cellV p = true := by
  unfold cellB at H
  split at H <;> first | rfl | cases H
theorem cellsB_ok : ∀ (z : List PV) (l : List Value) (arr : Array Value) (off : Nat), cellsB l z = true → (∀ (i : Nat) v, l[i]? = some v → arr[off + i]? = some v) → RCells fid γ h arr off z
  | [], _, _, _, _, _ => by simp only [RCells]
  | p :: r, l, arr, off, H, ha => by
    simp only [RCells]
    unfold cellsB at H
    split at H
    · simp_all
    · rename_i n xs r' e
      injection e with e1 e2; subst e1; subst e2
      simp only [Bool.and_eq_true, beq_iff_eq] at H
      obtain ⟨⟨⟨h1, h2⟩, h3⟩, h4⟩ := H
      refine ⟨⟨rfl, by simp only [RAt]; exact ⟨h1, cellsB_blob h2 h1 h3 ha⟩⟩, cellsB_ok _ _ _ _ h4 fun i v hi => ?_⟩
      simp only [wd]
      rw [List.getElem?_drop] at hi
      rw [Nat.add_assoc]; exact ha _ _ hi
    · rename_i v c x r' hn e
      injection e with e1 e2; subst e1; subst e2
      simp only [Bool.and_eq_true] at H
      have hc := cellB_ok (fid := fid) (γ := γ) (h := h) H.1
      refine ⟨⟨cellB_V H.1, hc.1.at (by simpa using ha 0 v rfl)⟩, cellsB_ok _ _ _ _ H.2 fun i u hi => ?_⟩
      rw [hc.2, Nat.add_assoc, Nat.add_comm 1 i]
      exact ha (i + 1) u (by simpa using hi)
    · cases H
theorem zeroT_ok {t : TypeId} {z : List PV} (H : zeroT P t = some z) : ∃ i v, P.info? t = some i ∧ i.zero = some v ∧ v.cells.size = i.size ∧ wds z = i.size ∧ i.bytes ≤ 4096 ∧ cellsB v.cells.toList z = true := by
  unfold zeroT at H
  split at H
  · rename_i z' i h1 h2
    split at H
    · rename_i v hv
      split at H
      · rename_i hc
        injection H with H; subst H
        simp only [Bool.and_eq_true, beq_iff_eq, decide_eq_true_eq] at hc
        exact ⟨i, v, h2, hv, hc.1.1.2, hc.1.2, hc.2, hc.1.1.1⟩
      · cases H
    · cases H
  · cases H
theorem zeroT_R {t : TypeId} {z : List PV} (H : zeroT P t = some z) : ∃ i v, P.info? t = some i ∧ i.zero = some v ∧ v.cells.size = wds z ∧ i.size = wds z ∧ i.bytes ≤ 4096 ∧ cellsB v.cells.toList z = true ∧ RCells fid γ h v.cells 0 z := by
  obtain ⟨i, v, h1, h2, h3, h4, h5, h6⟩ := zeroT_ok H
  exact ⟨i, v, h1, h2, by omega, by omega, h5, h6, cellsB_ok z _ _ 0 h6 fun j u hj => by rw [Nat.zero_add]; simpa using hj⟩
end
section
variable {P : Program} {E : Env} {C : Ctx} {γ : Gh} {w : World} {a : Act} {sl : SL} {ob : OB}
theorem run_zeroValue' {t : TypeId} {i : TypeInfo} {v : Value} (hi : P.info? t = some i) (hz : i.zero = some v) : (zeroValue t).run P w = .ok v w := by
  simp [zeroValue, typeInfo, hi, hz]
theorem mpl_ok (S : St C γ w a.tmps sl ob) {t kt et : TypeId} {k : IntKind} {z : List PV} {x ix : Value} {xv iv v : PV} (hm : P.underlying t = some (.map kt et)) (hk : P.underlying kt = some (.int k)) (hz : zeroT P et = some z) (hag : oneZ P et = true)
    (hx : RV C.fid γ w.heap x xv) (hi : RV C.fid γ w.heap ix iv) (H : mpl ob k z xv iv = some v) : ∃ y, (Instr.lookup t x ix false).run P w = .ok y w ∧ RV C.fid γ w.heap y v := by
  unfold mpl at H
  split at H
  · rename_i o k' n
    split at H
    · rename_i e; subst e
      rw [RV_i] at hi
      subst hi
      cases hX : getO ob o with
      | none => simp [hX, mplX] at H
      | some X =>
        simp only [hX, mplX] at H
        split at H
        · rename_i k2 l hmp
          split at H
          · rename_i hc
            obtain ⟨rfl, hv⟩ := hc
            obtain ⟨i, b, es, clock, _, _, rfl, hb, hE, _⟩ := map_at S hX hmp hv hx
            have hkey : MapKept.IsKey (.int k2) (.int k2 n) := rfl
            rcases find_R n es.toList l 0 hE with ⟨h1, h2, _⟩ | ⟨j, e, h1, _, _, ⟨u, h2, h3⟩, _⟩
            · obtain ⟨i0, zv, hi0, hzv, hs1, hs2, hby, hcB, hzR⟩ := zeroT_R (fid := C.fid) (γ := γ) (h := w.heap) hz
              rw [h2] at H
              simp only [mplV] at H
              obtain ⟨r, hr, hw⟩ := hd1_ok H
              injection hr with hr
              subst hr
              refine ⟨zv, ?_, ?_⟩
              · have hzr : (zeroValue et).run P w = .ok zv w := by simp [zeroValue, typeInfo, hi0, hzv, Result.andThen]
                simp [Instr.lookup, run_underlying hm, MapKept.run_getObj_map hb, MapKept.run_checkKey hk hkey, MapKept.run_findKey hk h1, Result.andThen, hzr]
              · have hcz : zv.cells = #[zv] := by
                  unfold oneZ at hag
                  rw [hi0] at hag
                  simp only [hzv] at hag
                  cases zv <;> first | rfl | (simp at hag)
                rw [hcz] at hzR
                simp only [RCells] at hzR
                exact hzR.1.2
            · rw [h2] at H
              simp only [mplV, Option.some.injEq] at H
              subst H
              refine ⟨e.val, ?_, valR_RV h3⟩
              simp [Instr.lookup, run_underlying hm, MapKept.run_getObj_map hb, MapKept.run_checkKey hk hkey, MapKept.run_findKey hk h1, Result.andThen]
          · cases H
        · cases H
    · cases H
  · cases H
variable (hE : E.fid = C.fid) (hG : E.glob = C.glob) (S : St C γ w a.tmps sl ob)
include hE hG S
theorem evs_ok' (xs : Array Operand) : RL C.fid γ w.heap (xs.map a.eval) 0 (evs E sl xs.toList) := by
  have := evs_ok hE hG S xs.toList
  rwa [← Array.toList_map, Array.toArray_toList] at this
theorem opV_ok {o : Oper} {v : PV} (H : opV P E sl o.op = some v) : ∃ x, (execOp a.eval o).run P w = .ok (.value x) w ∧ RV C.fid γ w.heap x v := by
  unfold opV at H
  split at H
  · rename_i x ho
    injection H with H; subst H
    exact ⟨a.eval x, by simp [execOp, ho], ev_ok hE hG S x⟩
  · rename_i x ho
    injection H with H; subst H
    exact ⟨a.eval x, by simp [execOp, ho], ev_ok hE hG S x⟩
  · rename_i f first caps ho
    injection H with H; subst H
    refine ⟨.func (.func f) (first.map a.eval) (caps.map a.eval), by simp [execOp, ho, Instr.makeFunc], RV_fn.2 ⟨f, _, _, rfl, by rw [hE], ⟨?_, ?_⟩, ?_, ?_⟩⟩
    · rw [evs_len]; simp
    · exact evs_ok' hE hG S first
    · rw [evs_len]; simp
    · exact evs_ok' hE hG S caps
  · rename_i args argTypes ho
    split at H
    · rename_i x t h1 h2
      split at H
      · rename_i n e hu
        injection H with H; subst H
        have e0 : argTypes[0]? = some t := by rw [← Array.getElem?_toList, h2]; rfl
        have e1 : args = #[x] := by rw [← Array.toArray_toList (xs := args), h1]
        refine ⟨goInt n, ?_, RV_i.2 rfl⟩
        simp [execOp, ho, resolve, invoke, builtin, Builtin.len_, e0, e1, run_underlying' hu]
      · cases H
    · cases H
  · cases H
theorem evps_ok (off : Nat → Option (Nat × Nat)) : ∀ (l : List (Nat × Operand)) (ps : List (Nat × Nat × PV)), evps E sl off l = some ps →
    ps.length = l.length ∧ ∀ (i : Nat) (p : Nat × Nat × PV) (x : Nat × Value), ps[i]? = some p → (l.map fun y => (y.1, a.eval y.2))[i]? = some x → off x.1 = some (p.1, p.2.1) ∧ RV C.fid γ w.heap x.2 p.2.2
  | [], ps, H => by simp only [evps, Option.some.injEq] at H; subst H; exact ⟨rfl, fun i p x h => by simp at h⟩
  | (i, x) :: r, ps, H => by
    simp only [evps] at H
    split at H
    · rename_i o q ho hq
      injection H with H; subst H
      obtain ⟨h1, h2⟩ := evps_ok off r q hq
      refine ⟨by simp [h1], fun j p y hj hy => ?_⟩
      rcases j with _ | j
      · simp at hj hy; subst hj; subst hy
        exact ⟨ho, ev_ok hE hG S x⟩
      · exact h2 j p y (by simpa using hj) (by simpa using hy)
    · cases H
theorem bld_ok {t : TypeId} {z : List PV} {ps : List (Nat × Nat × PV)} {parts : Array (Nat × Operand)} {v : PV} {place : Nat → Option (Nat × Nat)} (hz : zeroT P t = some z)
    (hrun : ∀ cells, Instr.fill place cells (parts.toList.map fun y => (y.1, a.eval y.2)) ≠ none → ∀ zero : Value, (zeroValue t).run P w = .ok zero w → cells = zero.cells → (Instr.build t (parts.map fun y => (y.1, a.eval y.2))).run P w = .ok (.agg ((Instr.fill place cells (parts.toList.map fun y => (y.1, a.eval y.2))).getD #[])) w)
    (hps : evps E sl place parts.toList = some ps) (H : bld z ps = some v) :
    ∃ x, (Instr.build t (parts.map fun y => (y.1, a.eval y.2))).run P w = .ok x w ∧ RV C.fid γ w.heap x v := by
  unfold bld at H
  cases hb : bldC (some z) ps with
  | none => simp [hb, aggO] at H
  | some out =>
    simp only [hb, aggO, Option.some.injEq] at H; subst H
    obtain ⟨i, zv, hi, hzv, hs1, hs2, _, _, hR⟩ := zeroT_R (fid := C.fid) (γ := γ) (h := w.heap) hz
    obtain ⟨hl, hp⟩ := evps_ok hE hG S place parts.toList ps hps
    obtain ⟨arr, h1, h2, h3, h4⟩ := fill_ok place ps (parts.toList.map fun y => (y.1, a.eval y.2)) z zv.cells out hb hR hs1 (by simp [hl]) hp
    have := hrun zv.cells (by rw [h1]; simp) zv (run_zeroValue' hi hzv) rfl
    rw [h1] at this
    exact ⟨_, this, RV_agg.2 ⟨_, rfl, h2, h4⟩⟩
omit hE hG S in
theorem run_mapM_fields (fs : Array Field) (hk : ∀ f ∈ fs.toList, known P f.type = true) : (fs.mapM fun f => (do pure (f.offset, ← sizeOf f.type) : Sem (Nat × Nat))).run P w = .ok (fs.map fun f => (f.offset, P.cellsOf f.type)) w := by
  have key : ∀ l : List Field, (∀ f ∈ l, known P f.type = true) → (l.mapM fun f => (do pure (f.offset, ← sizeOf f.type) : Sem (Nat × Nat))).run P w = .ok (l.map fun f => (f.offset, P.cellsOf f.type)) w := by
    intro l
    induction l with
    | nil => intro _; simp
    | cons f r ih =>
      intro h
      obtain ⟨d, hd⟩ := known_some (h f (by simp))
      have h1 := ih (fun g hg => h g (by simp [hg]))
      simp only [List.mapM_cons, Sem.run_bind, run_sizeOf' hd, Result.andThen_ok, Sem.run_pure, h1, List.map_cons]
  rw [Array.mapM_eq_mapM_toList]
  simp only [Sem.run_map, key fs.toList hk, Result.andThen_ok]
  rw [← Array.toList_map, Array.toArray_toList]
omit hE hG S in
theorem run_eqv {op : BinOp} {neg : Bool} {t : TypeId} {x y : Operand} {p q : Value} {r : Bool} (hop : (neg = false ∧ op = .eql) ∨ (neg = true ∧ op = .neq))
    (hb : ∀ op', (op' = .eql → binOp op' t p q = (do pure (.bool (← Op.equal t p q)))) ∧ (op' = .neq → binOp op' t p q = (do pure (.bool (!(← Op.equal t p q))))))
    (hg : (eqGuard op t x y p q).run P w = .ok () w) (he : (Op.equalIn (9999 + 1) t p q).run P w = .ok r w) :
    (do eqGuard op t x y p q; binOp op t p q : Sem Value).run P w = .ok (.bool (r ^^ neg)) w := by
  have he' : (Op.equal t p q).run P w = .ok r w := he
  rcases hop with ⟨rfl, rfl⟩ | ⟨rfl, rfl⟩
  · rw [Sem.run_bind, hg, Result.andThen_ok, (hb .eql).1 rfl]
    simp only [Sem.run_bind, he', Result.andThen_ok, Sem.run_pure, Bool.xor_false]
  · rw [Sem.run_bind, hg, Result.andThen_ok, (hb .neq).2 rfl]
    simp only [Sem.run_bind, he', Result.andThen_ok, Sem.run_pure, Bool.xor_true]
omit hE hG S in
theorem equalIn_slice {d : Nat} {t e : TypeId} (hu : P.underlying t = some (.slice e)) (a b : Option Addr) (n c m k : Nat) (hn : a = none ∨ b = none) :
    (Op.equalIn (d + 1) t (.slice a n c) (.slice b m k)).run P w = .ok (a.isNone && b.isNone) w := by
  unfold Op.equalIn
  simp only [Sem.run_bind, run_underlying' hu, Result.andThen_ok]
  rcases hn with rfl | rfl
  · simp
  · cases a <;> simp
omit hE hG S in
theorem equalIn_pointer {d : Nat} {t e : TypeId} (hu : P.underlying t = some (.pointer e)) (a b : Option Addr) (hn : a = none ∨ b = none) :
    (Op.equalIn (d + 1) t (.pointer a) (.pointer b)).run P w = .ok (a.isNone && b.isNone) w := by
  unfold Op.equalIn
  simp only [Sem.run_bind, run_underlying' hu, Result.andThen_ok]
  rcases hn with rfl | rfl
  · simp
  · cases a <;> simp
omit hE hG S in
theorem equalIn_func {d : Nat} {t : TypeId} {p q : Array TypeId} {v : Bool} (hu : P.underlying t = some (.func p q v)) :
    (Op.equalIn (d + 1) t .nilFunc .nilFunc).run P w = .ok true w ∧ (∀ f a b, (Op.equalIn (d + 1) t (.func f a b) .nilFunc).run P w = .ok false w) ∧ ∀ f a b, (Op.equalIn (d + 1) t .nilFunc (.func f a b)).run P w = .ok false w := by
  refine ⟨?_, fun f a b => ?_, fun f a b => ?_⟩ <;> unfold Op.equalIn <;> simp only [Sem.run_bind, run_underlying' hu, Result.andThen_ok, Sem.run_pure]
omit hE hG S in
theorem nilOf_val {t : TypeId} {y : Operand} (h : nilOf P t y = true) : (y = .const (.slice none 0 0) ∧ ∃ e, P.underlying t = some (.slice e)) ∨ (y = .const (.pointer none) ∧ ∃ e, P.underlying t = some (.pointer e)) ∨ (y = .const .nilFunc ∧ ∃ p q r, P.underlying t = some (.func p q r)) := by
  unfold nilOf at h
  split at h
  · refine .inl ⟨rfl, ?_⟩
    split at h <;> first | exact ⟨_, by assumption⟩ | cases h
  · refine .inr (.inl ⟨rfl, ?_⟩)
    split at h <;> first | exact ⟨_, by assumption⟩ | cases h
  · refine .inr (.inr ⟨rfl, ?_⟩)
    split at h <;> first | exact ⟨_, _, _, by assumption⟩ | cases h
  · cases h
omit hE hG S in
theorem eqIs_ok {fid : Nat → Nat} {γ : Gh} {h : Array Obj} {d : Nat} {e : TypeId} {k : IntKind} {cs ds : Array Value} (he : P.underlying e = some (.int k)) (hc : P.cellsOf e = 1) : ∀ (xs ys : List PV) (off : Nat) (r : Bool), eqIs xs ys = some r → blobR cs off xs → blobR ds off ys →
    (Op.eqItems (d + 1) e (P.cellsOf e) cs ds (List.range' off xs.length)).run P w = .ok r w
  | [], [], off, r, H, _, _ => by
    simp only [eqIs, Option.some.injEq] at H; subst H
    simp [Op.eqItems]
  | x :: xs, y :: ys, off, r, H, hx, hy => by
    simp only [eqIs] at H
    split at H
    · rename_i a b ha hb
      simp only [Option.some.injEq] at H; subst H
      unfold eqI at ha
      split at ha
      · rename_i k1 n1 k2 n2
        split at ha
        · rename_i hk
          subst hk
          injection ha with ha; subst ha
          obtain ⟨v1, g1, s1⟩ := hx 0 _ rfl
          obtain ⟨v2, g2, s2⟩ := hy 0 _ rfl
          simp only [scalR] at s1 s2
          subst s1; subst s2
          rw [Nat.add_zero] at g1 g2
          have p1 : (part e cs (off * P.cellsOf e)).run P w = .ok (.int k1 n1) w := by
            rw [hc, Nat.mul_one]; simp [part, isAgg, run_underlying' he, g1]
          have p2 : (part e ds (off * P.cellsOf e)).run P w = .ok (.int k1 n2) w := by
            rw [hc, Nat.mul_one]; simp [part, isAgg, run_underlying' he, g2]
          have p3 : (Op.equalIn (d + 1) e (.int k1 n1) (.int k1 n2)).run P w = .ok (n1 == n2) w := by
            simp [Op.equalIn, run_underlying' he]
          have ih := eqIs_ok (γ := γ) (h := h) (fid := fid) (d := d) he hc xs ys (off + 1) b hb (fun i z hi => by
            have := hx (i + 1) z (by simpa using hi)
            rwa [show off + (i + 1) = off + 1 + i by omega] at this) (fun i z hi => by
            have := hy (i + 1) z (by simpa using hi)
            rwa [show off + (i + 1) = off + 1 + i by omega] at this)
          rw [List.length_cons, List.range'_succ]
          simp only [Op.eqItems, Sem.run_bind, p1, p2, p3, Result.andThen_ok]
          cases hb : (n1 == n2)
          · simp
          · simpa using ih
        · cases ha
      · cases ha
    · cases H
  | [], _ :: _, _, _, H, _, _ => by simp [eqIs] at H
  | _ :: _, [], _, _, H, _, _ => by simp [eqIs] at H
omit hE hG S in
theorem andR_some {p : Bool} {y : Option Bool} {r : Bool} (h : andR p y = some r) : ∃ q, y = some q ∧ r = (p && q) := by
  unfold andR at h
  split at h
  · injection h with h; exact ⟨_, rfl, h.symm⟩
  · cases h
omit hE hG S in
theorem shT_ok {t : TypeId} {s : Sh} (h : shT P t = some s) : (s = .i ∧ ∃ k, P.underlying t = some (.int k)) ∨ (s = .b ∧ P.underlying t = some .bool) ∨ ∃ n e, s = .a n ∧ P.underlying t = some (.array n e) ∧ isInt P e = true ∧ P.cellsOf e = 1 ∧ P.cellsOf t = n := by
  unfold shT at h
  split at h
  · rename_i k hu; injection h with h; exact .inl ⟨h.symm, k, hu⟩
  · rename_i hu; injection h with h; exact .inr (.inl ⟨h.symm, hu⟩)
  · rename_i n e hu
    split at h
    · rename_i hc
      simp only [Bool.and_eq_true, beq_iff_eq] at hc
      injection h with h
      exact .inr (.inr ⟨n, e, h.symm, hu, hc.1.1, hc.1.2, hc.2⟩)
    · cases h
  · cases h
omit hE hG S in
theorem isInt_ok {e : TypeId} (hi : isInt P e = true) : ∃ k, P.underlying e = some (.int k) := by
  unfold isInt at hi
  split at hi
  · exact ⟨_, by assumption⟩
  · cases hi
omit hE hG S in
theorem eqS1_i {v u : PV} {p : Bool} (H : eqS1 .i v u = some p) : ∃ k a b, v = .i k a ∧ u = .i k b ∧ (a == b) = p := by
  cases v <;> first | (simp [eqS1] at H; done) | skip
  cases u <;> first | (simp [eqS1] at H; done) | skip
  rename_i k a k' b
  simp only [eqS1] at H
  split at H
  · rename_i e; subst e; injection H with H; exact ⟨_, _, _, rfl, rfl, H⟩
  · cases H
omit hE hG S in
theorem eqS1_b {v u : PV} {p : Bool} (H : eqS1 .b v u = some p) : ∃ a b, v = .b a ∧ u = .b b ∧ (a == b) = p := by
  cases v <;> first | (simp [eqS1] at H; done) | skip
  cases u <;> first | (simp [eqS1] at H; done) | skip
  simp only [eqS1] at H
  injection H with H
  exact ⟨_, _, rfl, rfl, H⟩
omit hE hG S in
theorem eqS1_a {v u : PV} {n : Nat} {p : Bool} (H : eqS1 (.a n) v u = some p) : ∃ zs us, v = .blob n zs ∧ u = .blob n us ∧ eqIs zs us = some p := by
  cases v <;> first | (simp [eqS1] at H; done) | skip
  cases u <;> first | (simp [eqS1] at H; done) | skip
  simp only [eqS1] at H
  split at H
  · rename_i e; obtain ⟨rfl, rfl⟩ := e; exact ⟨_, _, rfl, rfl, H⟩
  · cases H
omit hE hG S in
theorem eqSh_ok {fid : Nat → Nat} {γ : Gh} {h : Array Obj} {d : Nat} {cs ds : Array Value} : ∀ (fs : List Field) (off : Nat) (sh : List Sh) (xs ys : List PV) (r : Bool), shs P fs off = some sh → eqSh sh xs ys = some r → RCells fid γ h cs off xs → RCells fid γ h ds off ys →
    (Op.eqFields (d + 2) cs ds fs).run P w = .ok r w
  | [], off, sh, xs, ys, r, hsh, H, _, _ => by
    simp only [shs, Option.some.injEq] at hsh
    subst hsh
    cases xs <;> cases ys <;> simp [eqSh] at H
    subst H
    simp [Op.eqFields]
  | f :: fs, off, sh, xs, ys, r, hsh, H, hx, hy => by
    simp only [shs] at hsh
    split at hsh
    case isFalse => cases hsh
    rename_i hoff
    split at hsh
    case isFalse => cases hsh
    rename_i hnm
    have hnm : f.name ≠ "_" := by simpa using hnm
    split at hsh
    case h_2 => cases hsh
    rename_i s y hs hrest
    rw [hs] at hrest
    injection hsh with hsh
    subst hsh
    have step : ∀ (a b : Value) (p q : Bool), (part f.type cs f.offset).run P w = .ok a w → (part f.type ds f.offset).run P w = .ok b w → (Op.equalIn (d + 2) f.type a b).run P w = .ok p w → (p = true → (Op.eqFields (d + 2) cs ds fs).run P w = .ok q w) → r = (p && q) → (Op.eqFields (d + 2) cs ds (f :: fs)).run P w = .ok r w := by
      intro a b p q p1 p2 p3 p4 hr
      simp only [Op.eqFields, hnm, ne_eq, not_false_eq_true, if_true, Sem.run_bind, p1, p2, p3, Result.andThen_ok]
      subst hr
      cases p
      · simp
      · simpa using p4 rfl
    rcases xs with _ | ⟨v, xs⟩
    · simp [eqSh] at H
    rcases ys with _ | ⟨u, ys⟩
    · simp [eqSh] at H
    simp only [eqSh] at H
    unfold andRR at H
    split at H
    case h_2 => cases H
    rename_i p hp
    obtain ⟨q, hq, hr⟩ := andR_some H
    simp only [RCells] at hx hy
    obtain ⟨⟨_, hx1⟩, hx2⟩ := hx
    obtain ⟨⟨_, hy1⟩, hy2⟩ := hy
    rcases shT_ok hs with ⟨rfl, k, hu⟩ | ⟨rfl, hu⟩ | ⟨n, e, rfl, hu, hi, hc, hct⟩
    · obtain ⟨k1, n1, n2, rfl, rfl, hpp⟩ := eqS1_i hp
      simp only [RAt] at hx1 hy1
      refine step (.int k1 n1) (.int k1 n2) p q ?_ ?_ ?_ (fun _ => eqSh_ok fs _ _ _ _ q hrest hq hx2 hy2) hr
      · rw [hoff]; simp [part, isAgg, run_underlying' hu, hx1]
      · rw [hoff]; simp [part, isAgg, run_underlying' hu, hy1]
      · rw [← hpp]; simp [Op.equalIn, run_underlying' hu]
    · obtain ⟨b1, b2, rfl, rfl, hpp⟩ := eqS1_b hp
      simp only [RAt] at hx1 hy1
      refine step (.bool b1) (.bool b2) p q ?_ ?_ ?_ (fun _ => eqSh_ok fs _ _ _ _ q hrest hq hx2 hy2) hr
      · rw [hoff]; simp [part, isAgg, run_underlying' hu, hx1]
      · rw [hoff]; simp [part, isAgg, run_underlying' hu, hy1]
      · rw [← hpp]; simp [Op.equalIn, run_underlying' hu]
    · obtain ⟨zs, us, rfl, rfl, hpp⟩ := eqS1_a hp
      simp only [RAt] at hx1 hy1
      obtain ⟨l1, b1⟩ := hx1
      obtain ⟨l2, b2⟩ := hy1
      obtain ⟨k, hk⟩ := isInt_ok hi
      obtain ⟨i0, hi0⟩ := info_of_underlying hk
      obtain ⟨i1, hi1⟩ := info_of_underlying hu
      have ex : ∀ (es : Array Value) (zs : List PV), zs.length = n → blobR es off zs → blobR (es.extract off (off + n)) 0 zs := by
        intro es zs hl hb j z hz
        obtain ⟨v, hv, hsv⟩ := hb j z hz
        have hj := (List.getElem?_eq_some_iff.1 hz).1
        have hj2 := (Array.getElem?_eq_some_iff.1 hv).1
        refine ⟨v, ?_, hsv⟩
        rw [Nat.zero_add, Array.getElem?_extract, if_pos (by omega)]
        exact hv
      refine step (.agg (cs.extract off (off + n))) (.agg (ds.extract off (off + n))) p q ?_ ?_ ?_ (fun _ => eqSh_ok fs _ _ _ _ q hrest hq hx2 hy2) hr
      · rw [hoff]; simp [part, isAgg, run_underlying' hu, run_sizeOf w hi1, hct]
      · rw [hoff]; simp [part, isAgg, run_underlying' hu, run_sizeOf w hi1, hct]
      · rw [run_equalIn_array (w := w) (d + 1) _ _ hu hi0, List.range_eq_range']
        have := eqIs_ok (P := P) (w := w) (fid := fid) (γ := γ) (h := h) (d := d) hk hc _ _ 0 p hpp (ex cs _ l1 b1) (ex ds _ l2 b2)
        rwa [l1] at this
omit hE hG S in
theorem eSt_ok {fid : Nat → Nat} {γ : Gh} {h : Array Obj} {op : BinOp} {neg : Bool} {t : TypeId} {fs : Array Field} {sh : List Sh} {x y : Operand} {p q : Value} {pv qv v : PV} (hop : (neg = false ∧ op = .eql) ∨ (neg = true ∧ op = .neq)) (hu : P.underlying t = some (.struct fs)) (hsh : shs P fs.toList 0 = some sh) (hst : P.stoodInHeld t = false) (hg : P.eqGuardType P.depth t = false)
    (hp : RV fid γ h p pv) (hq : RV fid γ h q qv) (H : eSt neg sh pv qv = some v) : ∃ z, (do eqGuard op t x y p q; binOp op t p q : Sem Value).run P w = .ok z w ∧ RV fid γ h z v := by
  unfold eSt at H
  split at H
  case h_2 => cases H
  rename_i xs ys
  unfold notR at H
  split at H
  case h_2 => cases H
  rename_i r hr
  injection H with H
  subst H
  obtain ⟨cs, rfl, _, h1⟩ := RV_agg.1 hp
  obtain ⟨ds, rfl, _, h2⟩ := RV_agg.1 hq
  have hfs : P.fieldsOf t = fs := by simp [Program.fieldsOf, hu]
  refine ⟨_, run_eqv hop (fun op' => ⟨fun h => by subst h; rfl, fun h => by subst h; rfl⟩) (by cases op <;> simp [eqGuard, run_program, hg]) ?_, RV_b.2 rfl⟩
  rw [run_equalIn_struct w 9999 t cs ds (by rw [hfs]; exact hu) hst, hfs]
  exact eqSh_ok fs.toList 0 sh xs ys r hsh hr h1 h2
omit hE hG S in
theorem eAr_ok {fid : Nat → Nat} {γ : Gh} {h : Array Obj} {op : BinOp} {neg : Bool} {t e : TypeId} {n : Nat} {x y : Operand} {p q : Value} {pv qv v : PV} (hop : (neg = false ∧ op = .eql) ∨ (neg = true ∧ op = .neq)) (hu : P.underlying t = some (.array n e)) (hi : isInt P e = true) (hc : P.cellsOf e = 1) (hg : P.eqGuardType P.depth t = false)
    (hp : RV fid γ h p pv) (hq : RV fid γ h q qv) (H : eAr neg n pv qv = some v) : ∃ z, (do eqGuard op t x y p q; binOp op t p q : Sem Value).run P w = .ok z w ∧ RV fid γ h z v := by
  unfold eAr at H
  split at H
  · rename_i m xs m' ys
    split at H
    · rename_i hm
      obtain ⟨rfl, rfl⟩ := hm
      cases hr : eqIs xs ys with
      | none => simp [hr] at H
      | some r =>
        simp only [hr, Option.map_some, Option.some.injEq] at H; subst H
        obtain ⟨cs, rfl, _, h1⟩ := RV_agg.1 hp
        obtain ⟨ds, rfl, _, h2⟩ := RV_agg.1 hq
        simp only [RCells, RAt] at h1 h2
        obtain ⟨⟨_, l1, b1⟩, _⟩ := h1
        obtain ⟨⟨_, l2, b2⟩, _⟩ := h2
        obtain ⟨k, hk⟩ : ∃ k, P.underlying e = some (.int k) := by
          unfold isInt at hi
          split at hi
          · exact ⟨_, by assumption⟩
          · cases hi
        obtain ⟨i, hi'⟩ : ∃ i, P.info? e = some i := by
          cases he : P.info? e with
          | none => simp [Program.cellsOf, he] at hc
          | some i => exact ⟨i, rfl⟩
        refine ⟨_, run_eqv hop (fun op' => ⟨fun h => by subst h; rfl, fun h => by subst h; rfl⟩) (by cases op <;> simp [eqGuard, run_program, hg]) ?_, RV_b.2 rfl⟩
        rw [run_equalIn_array (w := w) 9999 cs ds hu hi', List.range_eq_range']
        have := eqIs_ok (P := P) (w := w) (fid := fid) (γ := γ) (h := h) (d := 9998) hk hc xs ys 0 r hr b1 b2
        rwa [l1] at this
    · cases H
  · cases H
theorem eqP_ok {op : BinOp} {neg : Bool} {t : TypeId} {x y : Operand} {v : PV} (hop : (neg = false ∧ op = .eql) ∨ (neg = true ∧ op = .neq)) (H : eqP P E neg t x y sl ob = some (some v)) :
    ∃ z, (do eqGuard op t x y (a.eval x) (a.eval y); binOp op t (a.eval x) (a.eval y) : Sem Value).run P w = .ok z w ∧ RV C.fid γ w.heap z v := by
  unfold eqP at H
  split at H
  · rename_i n e hu
    split at H
    · rename_i hc
      simp only [Bool.and_eq_true, beq_iff_eq, Bool.not_eq_true'] at hc
      injection H with H
      exact eAr_ok hop hu hc.1.1 hc.1.2 hc.2 (ev_ok hE hG S x) (ev_ok hE hG S y) H
    · cases H
  · rename_i fs hu
    unfold eqSt at H
    split at H
    · rename_i sh hsh
      split at H
      · rename_i hc
        simp only [Bool.and_eq_true, Bool.not_eq_true'] at hc
        injection H with H
        exact eSt_ok hop hu hsh hc.1 hc.2 (ev_ok hE hG S x) (ev_ok hE hG S y) H
      · cases H
    · cases H
  split at H
  · rename_i hn
    rcases nilOf_val hn with ⟨rfl, e, hu⟩ | ⟨rfl, e, hu⟩ | ⟨rfl, p, q, r', hu⟩
    · simp only [eqN, hu, Option.some.injEq] at H
      obtain ⟨r, hv, b, n, c, hx, hr⟩ := eNs_ok S (ev_ok hE hG S x) H
      refine ⟨_, ?_, RV_b_or hv⟩
      rw [hx]
      refine run_eqv hop (fun op' => ⟨fun h => by subst h; rfl, fun h => by subst h; rfl⟩) (by cases op <;> simp [eqGuard, Act.eval]) ?_
      rw [show a.eval (.const (.slice none 0 0)) = .slice none 0 0 from rfl, equalIn_slice hu _ _ _ _ _ _ (.inr rfl), ← hr]; simp
    · simp only [eqN, hu, Option.some.injEq] at H
      obtain ⟨r, hv, b, hx, hr⟩ := eNp_ok (ev_ok hE hG S x) H
      refine ⟨_, ?_, by rw [hv]; exact RV_b.2 rfl⟩
      rw [hx]
      refine run_eqv hop (fun op' => ⟨fun h => by subst h; rfl, fun h => by subst h; rfl⟩) (by cases op <;> simp [eqGuard, Act.eval]) ?_
      rw [show a.eval (.const (.pointer none)) = .pointer none from rfl, equalIn_pointer hu _ _ (.inr rfl), ← hr]; simp
    · simp only [eqN, hu, Option.some.injEq] at H
      obtain ⟨r, hv, hx⟩ := eNf_ok (ev_ok hE hG S x) H
      obtain ⟨e1, e2, e3⟩ := equalIn_func (P := P) (w := w) (d := 9999) hu
      refine ⟨_, ?_, by rw [hv]; exact RV_b.2 rfl⟩
      rcases hx with ⟨hx, rfl⟩ | ⟨f, b1, b2, hx, rfl⟩ <;> rw [hx] <;>
        refine run_eqv hop (fun op' => ⟨fun h => by subst h; rfl, fun h => by subst h; rfl⟩) (by cases op <;> simp [eqGuard, Act.eval]) ?_
      · exact e1
      · exact e2 _ _ _
  · split at H
    · rename_i hn
      rcases nilOf_val hn with ⟨rfl, e, hu⟩ | ⟨rfl, e, hu⟩ | ⟨rfl, p, q, r', hu⟩
      · simp only [eqN, hu, Option.some.injEq] at H
        obtain ⟨r, hv, b, n, c, hx, hr⟩ := eNs_ok S (ev_ok hE hG S y) H
        refine ⟨_, ?_, RV_b_or hv⟩
        rw [hx]
        refine run_eqv hop (fun op' => ⟨fun h => by subst h; rfl, fun h => by subst h; rfl⟩) (by cases op <;> simp [eqGuard, Act.eval]) ?_
        rw [show a.eval (.const (.slice none 0 0)) = .slice none 0 0 from rfl, equalIn_slice hu _ _ _ _ _ _ (.inl rfl), ← hr]; simp
      · simp only [eqN, hu, Option.some.injEq] at H
        obtain ⟨r, hv, b, hx, hr⟩ := eNp_ok (ev_ok hE hG S y) H
        refine ⟨_, ?_, by rw [hv]; exact RV_b.2 rfl⟩
        rw [hx]
        refine run_eqv hop (fun op' => ⟨fun h => by subst h; rfl, fun h => by subst h; rfl⟩) (by cases op <;> simp [eqGuard, Act.eval]) ?_
        rw [show a.eval (.const (.pointer none)) = .pointer none from rfl, equalIn_pointer hu _ _ (.inl rfl), ← hr]; simp
      · simp only [eqN, hu, Option.some.injEq] at H
        obtain ⟨r, hv, hx⟩ := eNf_ok (ev_ok hE hG S y) H
        obtain ⟨e1, e2, e3⟩ := equalIn_func (P := P) (w := w) (d := 9999) hu
        refine ⟨_, ?_, by rw [hv]; exact RV_b.2 rfl⟩
        rcases hx with ⟨hx, rfl⟩ | ⟨f, b1, b2, hx, rfl⟩ <;> rw [hx] <;>
          refine run_eqv hop (fun op' => ⟨fun h => by subst h; rfl, fun h => by subst h; rfl⟩) (by cases op <;> simp [eqGuard, Act.eval]) ?_
        · exact e1
        · exact e3 _ _ _
    · cases H
theorem opP_ok {o : Oper} {v : PV} (H : opP P E sl ob o.op = some (some v)) : ∃ x, (execOp a.eval o).run P w = .ok (.value x) w ∧ RV C.fid γ w.heap x v := by
  have wrap : ∀ {s : Sem Value}, (∃ x, s.run P w = .ok x w ∧ RV C.fid γ w.heap x v) → execOp a.eval o = (do pure (.value (← s))) → ∃ x, (execOp a.eval o).run P w = .ok (.value x) w ∧ RV C.fid γ w.heap x v := by
    rintro s ⟨x, h1, h2⟩ he
    exact ⟨x, by rw [he]; simp [h1], h2⟩
  have ev := ev_ok hE hG S
  unfold opP at H
  split at H
  · 
    rename_i c x y ho
    injection H with H
    unfold pk at H
    split at H
    · rename_i b hc
      have hcv := ev c; rw [hc, RV_b] at hcv
      cases b with
      | true => rw [if_pos rfl] at H; injection H with H; exact ⟨a.eval x, by simp [execOp, ho, hcv, asBool], H ▸ ev x⟩
      | false => rw [if_neg (by simp)] at H; injection H with H; exact ⟨a.eval y, by simp [execOp, ho, hcv, asBool], H ▸ ev y⟩
    · cases H
  · 
    rename_i t parts ho
    split at H
    · rename_i z fs hz hu
      split at H
      · rename_i ps hps
        split at H
        · rename_i hk
          injection H with H
          refine wrap (bld_ok hE hG S hz ?_ hps H) (by simp only [execOp, ho])
          intro cells hn zero hzr hc
          subst hc
          have hk' : ∀ f ∈ fs.toList, known P f.type = true := by
            rw [← Array.all_toList] at hk
            exact List.all_eq_true.1 hk
          simp only [Instr.build, Sem.run_bind, hzr, Result.andThen_ok, run_underlying' hu, run_mapM_fields fs hk']
          rw [show (parts.map fun y => (y.1, a.eval y.2)).toList = parts.toList.map fun y => (y.1, a.eval y.2) by simp]
          cases hf : Instr.fill (fun i => (fs.map fun f => (f.offset, P.cellsOf f.type))[i]?) zero.cells (parts.toList.map fun y => (y.1, a.eval y.2)) with
          | none => exact absurd hf hn
          | some arr => simp
        · cases H
      · cases H
    · rename_i z n e hz hu
      split at H
      · rename_i ps hps
        split at H
        · rename_i hk
          injection H with H
          obtain ⟨d, hd⟩ := known_some hk
          refine wrap (bld_ok hE hG S hz ?_ hps H) (by simp only [execOp, ho])
          intro cells hn zero hzr hc
          subst hc
          simp only [Instr.build, Sem.run_bind, hzr, Result.andThen_ok, run_underlying' hu, run_sizeOf' hd]
          rw [show (parts.map fun y => (y.1, a.eval y.2)).toList = parts.toList.map fun y => (y.1, a.eval y.2) by simp]
          cases hf : Instr.fill (fun i => some (i * P.cellsOf e, P.cellsOf e)) zero.cells (parts.toList.map fun y => (y.1, a.eval y.2)) with
          | none => exact absurd hf hn
          | some arr => simp
        · cases H
      · cases H
    · cases H
  · 
    rename_i t x ho
    split at H
    · rename_i hk
      injection H with H
      refine wrap (s := Instr.loadAt t (a.eval x)) ?_ (by simp only [execOp, ho])
      cases ha : aggT P t with
      | true => rw [ha] at H; exact lN_ok S (ev x) hk ha H
      | false => rw [ha] at H; exact l1_ok S (ev x) hk ha H
    · cases H
  · 
    rename_i op t x y yt ho
    split at H
    · rename_i hp
      injection H with H
      exact wrap (bi_ok (ev x) (ev y) hp H x y) (by simp only [execOp, ho])
    · split at H
      · rename_i hb
        injection H with H
        exact wrap (biB_ok (ev x) (ev y) hb H x y) (by simp only [execOp, ho])
      · split at H
        · exact wrap (eqP_ok hE hG S (.inl ⟨rfl, rfl⟩) H) (by simp only [execOp, ho])
        · exact wrap (eqP_ok hE hG S (.inr ⟨rfl, rfl⟩) H) (by simp only [execOp, ho])
        · cases H
  · 
    rename_i op _ x ho
    injection H with H
    exact wrap (uO_ok (ev x) H) (by simp only [execOp, ho])
  · 
    rename_i src dst x ho
    split at H
    · rename_i k0 k hs hd
      injection H with H
      exact wrap (cv_ok (ev x) hs hd H) (by simp only [execOp, ho])
    · rename_i e hs hd
      split at H
      · rename_i he
        injection H with H
        refine wrap (b2s_ok S (ev x) hs ?_ hd H) (by simp only [execOp, ho])
        exact he
      · cases H
    · cases H
  · 
    rename_i t x f ho
    split at H
    · rename_i fs hu
      split at H
      · rename_i fd hf
        split at H
        · cases H
        · rename_i hn
          injection H with H
          exact wrap (fA_ok (ev x) hu hf hn H) (by simp only [execOp, ho])
      · cases H
    · cases H
  · 
    rename_i t x f ho
    split at H
    · rename_i fs hu
      split at H
      · rename_i fd hf
        split at H
        · rename_i hk
          injection H with H
          exact wrap (fV_ok (ev x) hu hf hk H) (by simp only [execOp, ho])
        · cases H
      · cases H
    · cases H
  · 
    rename_i t x ix ho
    split at H
    · rename_i e hu
      split at H
      · rename_i hk
        injection H with H
        exact wrap (xS_ok S (ev x) (ev ix) hu hk H) (by simp only [execOp, ho])
      · cases H
    · rename_i n e hu
      split at H
      · rename_i h1
        injection H with H
        exact wrap (xA_ok (ev x) (ev ix) hu h1 H) (by simp only [execOp, ho])
      · cases H
    · cases H
  · 
    rename_i t x ix ho
    split at H
    · rename_i n e hu
      split at H
      · rename_i hk
        injection H with H
        exact wrap (xV_ok (ev x) (ev ix) hu hk H) (by simp only [execOp, ho])
      · cases H
    · rename_i hu
      injection H with H
      exact wrap (xVs_ok (ev x) (ev ix) hu H) (by simp only [execOp, ho])
    · cases H
  · 
    rename_i t x ix ho
    split at H
    · rename_i k et hmk
      split at H
      · rename_i z hz
        split at H
        · rename_i h1
          injection H with H
          obtain ⟨kt, hm, hk⟩ := mapK_some hmk
          exact wrap (mpl_ok S hm hk hz h1 (ev x) (ev ix) H) (by simp only [execOp, ho])
        · cases H
      · cases H
    · cases H
  · 
    rename_i x k ho
    injection H with H
    exact wrap (ext_ok (ev x) H) (by simp only [execOp, ho])
  · 
    rename_i x ho
    injection H with H
    rcases nc_ok (ev x) H with ⟨e, ad, h⟩ | ⟨e, f, p, q, h⟩
    · exact ⟨a.eval x, by simp [execOp, ho, h], by rw [e]; exact ev x⟩
    · exact ⟨a.eval x, by simp [execOp, ho, h], by rw [e]; exact ev x⟩
  · 
    rename_i args argTypes ho
    split at H
    · rename_i x t h1 h2
      have e0 : argTypes[0]? = some t := by rw [← Array.getElem?_toList, h2]; rfl
      have e1 : args = #[x] := by rw [← Array.toArray_toList (xs := args), h1]
      split at H
      · rename_i e hu
        injection H with H
        obtain ⟨z, hz, hv⟩ := len_ok (P := P) (w := w) (ty := o.type) (ev x) hu e0 H
        exact ⟨z, by simp [execOp, ho, resolve, invoke, builtin, e1, hz], hv⟩
      · rename_i hu
        injection H with H
        obtain ⟨z, hz, hv⟩ := lenS_ok (P := P) (w := w) (ty := o.type) (ev x) hu e0 H
        exact ⟨z, by simp [execOp, ho, resolve, invoke, builtin, e1, hz], hv⟩
      · cases H
    · cases H
  · 
    rename_i args argTypes ho
    split at H
    · rename_i x t h1 h2
      have e0 : argTypes[0]? = some t := by rw [← Array.getElem?_toList, h2]; rfl
      have e1 : args = #[x] := by rw [← Array.toArray_toList (xs := args), h1]
      split at H
      · rename_i e hu
        injection H with H
        obtain ⟨z, hz, hv⟩ := cp_ok (P := P) (w := w) (ty := o.type) S (ev x) hu e0 H
        exact ⟨z, by simp [execOp, ho, resolve, invoke, builtin, e1, hz], hv⟩
      · cases H
    · cases H
  · 
    rename_i args argTypes ho
    split at H
    · rename_i x y h1
      have e1 : args = #[x, y] := by rw [← Array.toArray_toList (xs := args), h1]
      injection H with H
      obtain ⟨z, hz, hv⟩ := mnI_ok (P := P) (w := w) (at' := argTypes) (ty := o.type) (ev x) (ev y) H
      exact ⟨z, by simp [execOp, ho, resolve, invoke, builtin, e1, hz], hv⟩
    · cases H
  · 
    rename_i args argTypes ho
    split at H
    · rename_i x y h1
      have e1 : args = #[x, y] := by rw [← Array.toArray_toList (xs := args), h1]
      injection H with H
      obtain ⟨z, hz, hv⟩ := mxI_ok (P := P) (w := w) (at' := argTypes) (ty := o.type) (ev x) (ev y) H
      exact ⟨z, by simp [execOp, ho, resolve, invoke, builtin, e1, hz], hv⟩
    · cases H
  · cases H
end
end Go.Proofs.Ytnkapponcbgbhaa
