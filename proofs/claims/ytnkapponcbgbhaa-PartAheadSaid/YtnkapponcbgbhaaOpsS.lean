import Derived.Test.YtnkapponcbgbhaaOpsQ
import Derived.Laws.BytesString
import Derived.MapKept
set_option linter.all false
namespace Go.Proofs.Ytnkapponcbgbhaa
section
open Go
section
variable {P : Program} {C : Ctx} {γ : Gh} {w : World} {act : Act} {sl : SL} {ob : OB}
theorem xS_ok (S : St C γ w act.tmps sl ob) {x y : Value} {xv yv v : PV} {t e : TypeId} (hx : RV C.fid γ w.heap x xv) (hy : RV C.fid γ w.heap y yv) (ht : P.underlying t = some (.slice e)) (hk : known P e = true)
    (H : xS ob (P.cellsOf e) xv yv = some v) : ∃ z, (Instr.indexAt t x y).run P w = .ok z w ∧ RV C.fid γ w.heap z v := by
  obtain ⟨d, hd⟩ := known_some hk
  have hr : ∀ {k : IntKind} {i : Int} {ad : Addr} {len c : Nat}, 0 ≤ i → i < len → (Instr.indexAt t (.slice (some ad) len c) (.int k i)).run P w = .ok (.pointer (some (ad.add (i.toNat * P.cellsOf e)))) w := by
    intro k i ad len c g0 g1
    simp [Instr.indexAt, asIntOf, run_underlying' ht, g0, g1, run_sizeOf' hd]
  have hel : ∀ {g : Bool} {xs : List (List PV)} {k : IntKind} {i : Int}, RV C.fid γ w.heap x (.l g xs) → 0 ≤ i → elQ g (P.cellsOf e) xs[i.toNat]? = some v → ∃ z, (Instr.indexAt t x (.int k i)).run P w = .ok z w ∧ RV C.fid γ w.heap z v := by
    intro g xs k i hx h0 H
    cases he : xs[i.toNat]? with
    | none => simp [he, elQ] at H
    | some el =>
      simp only [he, elQ] at H
      split at H
      · rename_i hw
        injection H with H; subst H
        obtain ⟨a, c, rfl, _, h⟩ := RV_l.1 hx
        have hlt : i.toNat < xs.length := (List.getElem?_eq_some_iff.1 he).1
        rcases h with h | ⟨b, o, w', cs, rfl, hq, hrow, hE⟩
        · subst h; simp at hlt
        · have := PEls_get hE _ el he
          have hw' : w' = P.cellsOf e := by rw [← hw, this.1]
          subst hw'
          exact ⟨_, hr h0 (by omega), RV_q.2 ⟨b, _, cs, by rw [add_none]; simp, hq, hrow, this.2⟩⟩
      · cases H
  unfold xS at H
  split at H
  · rename_i g xs k i
    rw [RV_i] at hy; subst hy
    split at H
    · rename_i h0; exact hel hx h0 H
    · cases H
  · rename_i g xs k i
    rw [RV_i] at hy; subst hy
    split at H
    · rename_i h0; exact hel (RV_ln.1 hx).1 h0 H
    · cases H
  · rename_i o ver lo n k i
    rw [RV_i] at hy; subst hy
    cases ho : getO ob o with
    | none => simp [ho, xSO] at H
    | some Y =>
      simp only [ho, xSO] at H
      split at H
      · rename_i hc
        obtain ⟨hver, hw, h0, h1, h2⟩ := hc
        injection H with H; subst H
        obtain ⟨I, hI, hv, a, c, rfl, hh⟩ := RV_sl.1 hx
        obtain ⟨I', hI', g1, g2, g3, g4⟩ := S.obj o Y ho
        rw [hI] at hI'; injection hI' with hI'; subst hI'
        obtain ⟨k1, k2, k3⟩ := hh (by omega)
        obtain ⟨b, hb, rfl⟩ := k3 (by omega)
        simp only [hb] at g4
        have hw2 : I.w = P.cellsOf e := by rw [← g4.1, hw]
        refine ⟨_, hr h0 h1, RV_p.2 ⟨I, hI, hv, _, rfl, fun _ => ⟨b, hb, ?_⟩⟩⟩
        rw [add_none, hw2]; simp [Nat.add_mul]
      · cases H
  · rename_i o off lo n k i
    rw [RV_i] at hy; subst hy
    split at H
    · rename_i hc
      obtain ⟨h1, h0, h2⟩ := hc
      injection H with H; subst H
      obtain ⟨I, hI, a, c, rfl, hn, hh⟩ := RV_bs.1 hx
      refine ⟨_, hr h0 h2, RV_p.2 ⟨I, hI, Nat.zero_le _, _, rfl, fun e => ?_⟩⟩
      obtain ⟨b, hb, rfl⟩ := hh e (by omega)
      exact ⟨b, hb, by rw [add_none, h1]; simp; omega⟩
    · cases H
  · cases H
theorem unB_ok : ∀ {ys : List (List PV)} {t : List UInt8}, unB ys = some t → ∃ ns : List Int, ys = ns.map (fun n => [PV.i .u8 n]) ∧ t = ns.map fun n => UInt8.ofNat n.toNat
  | [], t, H => by simp only [unB, Option.some.injEq] at H; subst H; exact ⟨[], rfl, rfl⟩
  | [.i .u8 n] :: r, t, H => by
    simp only [unB] at H
    cases hr : unB r with
    | none => simp [hr, unC] at H
    | some t' =>
      simp only [hr, unC, Option.some.injEq] at H; subst H
      obtain ⟨ns, e1, e2⟩ := unB_ok hr
      exact ⟨n :: ns, by rw [e1]; rfl, by rw [e2]; rfl⟩
theorem b2s_ok (S : St C γ w act.tmps sl ob) {x : Value} {xv v : PV} {src dst e : TypeId} (hx : RV C.fid γ w.heap x xv) (hs : P.underlying src = some (.slice e)) (he : P.underlying e = some (.int .u8)) (hd : P.underlying dst = some .string)
    (H : b2s ob xv = some v) : ∃ z, (convert src dst x).run P w = .ok z w ∧ RV C.fid γ w.heap z v := by
  unfold b2s at H
  cases hc : contL ob xv with
  | none => simp [hc, b2sC] at H
  | some r =>
    simp only [hc, b2sC] at H
    cases hu : unB r.2 with
    | none => simp [hu, strO] at H
    | some t =>
      simp only [hu, strO, Option.some.injEq] at H; subst H
      obtain ⟨a, c, rfl, _, h⟩ := contL_ok S hx hc
      obtain ⟨ns, e1, e2⟩ := unB_ok hu
      rcases h with h | ⟨b, o, w', cs, ea, hrow, hE⟩
      · have hn : ns = [] := by rw [e1] at h; simpa using h
        subst hn
        simp only [List.map_nil] at e2; subst e2
        rw [e1]
        refine ⟨.string ByteArray.empty, ?_, RV_s.2 ⟨_, rfl, rfl⟩⟩
        rw [run_convert_bytes_string w src dst e a _ c hs he hd]
        cases a with
        | none => simp [Conv.bytesToString]
        | some ad => simpa using run_bytesToString (P := P) w ad 0 c [] (by simp [loadCells, loadCellsFrom])
      · subst ea
        have hg : ∀ i (hi : i < ns.length), cs[o + i]? = some (.int .u8 ns[i]) := by
          intro i hi
          have := PEls_get hE i [.i .u8 ns[i]] (by rw [e1]; simp [hi])
          simp only [wds, wd, PCells, PAt, and_true] at this
          obtain ⟨h1, h2⟩ := this
          rw [← h1] at h2
          simpa using h2
        have hlen : r.2.length = ns.length := by rw [e1]; simp
        have hl : (loadCells ⟨b, o, none⟩ r.2.length).run P w = .ok (ns.map (Value.int .u8)).toArray w := by
          rw [hlen]
          have := run_loadCells_list (P := P) w ⟨b, o, none⟩ (ns.map (Value.int .u8)) (fun j u hj => by
            rw [add_none, cell_rowAt hrow]
            have hj' : j < ns.length := by simpa using (List.getElem?_eq_some_iff.1 hj).1
            rw [hg j hj']
            rw [List.getElem?_map, List.getElem?_eq_getElem hj'] at hj
            exact hj)
          simpa using this
        refine ⟨_, by rw [run_convert_bytes_string w src dst e _ _ c hs he hd]; exact run_bytesToString w _ _ c ns hl, RV_s.2 ⟨_, rfl, ?_⟩⟩
        have key : ∀ (l : List Int) (s : ByteArray), (l.foldl (fun r n => r.push (UInt8.ofNat n.toNat)) s).data.toList = s.data.toList ++ l.map fun n => UInt8.ofNat n.toNat := by
          intro l
          induction l with
          | nil => intro s; simp
          | cons n l ih => intro s; simp only [List.foldl_cons, ih, List.map_cons]; simp [ByteArray.push]
        rw [key, e2]; rfl
theorem cells_ok {fid : Nat → Nat} {γ : Gh} {h : Array Obj} {x : Value} {v : PV} (hx : RV fid γ h x v) (hs : stv v = true) : x.cells.size = wds (cellsOf v) ∧ RCells fid γ h x.cells 0 (cellsOf v) := by
  have h1 : ∀ {u : PV}, wd u = 1 → cellsOf u = [u] → cellV u = true → RV fid γ h x u → x.cells = #[x] → x.cells.size = wds (cellsOf u) ∧ RCells fid γ h x.cells 0 (cellsOf u) := by
    intro u hw hc hcv hx e
    rw [e, hc]; simp only [wds, hw, RCells]; exact ⟨rfl, ⟨hcv, hx⟩, trivial⟩
  cases v with
  | un => simp [stv] at hs
  | ub => simp [stv] at hs
  | blob n xs => simp [stv] at hs
  | agg cs => obtain ⟨arr, rfl, hs, hc⟩ := RV_agg.1 hx; exact ⟨hs, hc⟩
  | b _ => exact h1 rfl rfl rfl hx (by rw [RV_b.1 hx]; rfl)
  | i _ _ => exact h1 rfl rfl rfl hx (by rw [RV_i.1 hx]; rfl)
  | s _ => exact h1 rfl rfl rfl hx (by obtain ⟨s, e, _⟩ := RV_s.1 hx; rw [e]; rfl)
  | l _ _ => exact h1 rfl rfl rfl hx (by obtain ⟨a, c, e, _⟩ := RV_l.1 hx; rw [e]; rfl)
  | ln _ _ => exact h1 rfl rfl rfl hx (by obtain ⟨_, a, n, c, e⟩ := RV_ln.1 hx; rw [e]; rfl)
  | e _ => exact h1 rfl rfl rfl hx (by obtain ⟨a, e, _⟩ := RV_e.1 hx; rw [e]; rfl)
  | sl _ _ _ _ => exact h1 rfl rfl rfl hx (by obtain ⟨_, _, _, a, c, e, _⟩ := RV_sl.1 hx; rw [e]; rfl)
  | bs _ _ _ _ => exact h1 rfl rfl rfl hx (by obtain ⟨_, _, a, c, e, _⟩ := RV_bs.1 hx; rw [e]; rfl)
  | p _ _ _ _ _ => exact h1 rfl rfl rfl hx (by obtain ⟨_, _, _, a, e, _⟩ := RV_p.1 hx; rw [e]; rfl)
  | q _ _ _ => exact h1 rfl rfl rfl hx (by obtain ⟨_, _, _, e, _⟩ := RV_q.1 hx; rw [e]; rfl)
  | np => exact h1 rfl rfl rfl hx (by rw [RV_np.1 hx]; rfl)
  | tup _ => simp [stv] at hs
  | fn _ _ _ => exact h1 rfl rfl rfl hx (by obtain ⟨_, _, _, e, _⟩ := RV_fn.1 hx; rw [e]; rfl)
  | y _ _ _ => simp [stv] at hs
  | m _ => exact h1 rfl rfl rfl hx (by obtain ⟨_, _, a, e, _⟩ := RV_m.1 hx; rw [e]; rfl)
  | ifc _ _ => exact h1 rfl rfl rfl hx (by obtain ⟨_, e, _⟩ := RV_ifc.1 hx; rw [e]; rfl)
  | ni => exact h1 rfl rfl rfl hx (by rw [RV_ni.1 hx]; rfl)
  | nm => exact h1 rfl rfl rfl hx (by rw [RV_nm.1 hx]; rfl)
  | pan _ => simp [stv] at hs
  | nf => exact h1 rfl rfl rfl hx (by rw [RV_nf.1 hx]; rfl)
theorem setCells_get (vs : List Value) : ∀ (off k : Nat) (cs : Array Value), off + k + vs.length ≤ cs.size → ∀ i, ((vs.zipIdx k).foldl (fun cs (x : Value × Nat) => cs.setIfInBounds (off + x.2) x.1) cs)[i]? = if off + k ≤ i ∧ i < off + k + vs.length then vs[i - (off + k)]? else cs[i]? := by
  induction vs with
  | nil => intro off k cs _ i; simp; omega
  | cons v r ih =>
    intro off k cs hb i
    simp only [List.zipIdx_cons, List.foldl_cons, List.length_cons] at hb ⊢
    rw [ih off (k + 1) _ (by simp; omega)]
    by_cases h : i = off + k
    · subst h
      rw [if_neg (by omega), if_pos (by omega)]
      simp [Array.getElem?_setIfInBounds]; omega
    · by_cases h2 : off + (k + 1) ≤ i ∧ i < off + (k + 1) + r.length
      · rw [if_pos h2, if_pos (by omega)]
        rw [show i - (off + k) = (i - (off + (k + 1))) + 1 by omega, List.getElem?_cons_succ]
      · rw [if_neg h2, if_neg (by omega), Array.getElem?_setIfInBounds_ne (by omega)]
theorem setCells_size (vs : List (Value × Nat)) : ∀ (off : Nat) (cs : Array Value), (vs.foldl (fun cs (x : Value × Nat) => cs.setIfInBounds (off + x.2) x.1) cs).size = cs.size := by
  induction vs with
  | nil => intro off cs; rfl
  | cons v r ih => intro off cs; simp only [List.foldl_cons, ih]; simp
theorem putW_ok {fid : Nat → Nat} {γ : Gh} {h : Array Obj} {cs cs' ns : Array Value} {base off : Nat} {z new out : List PV} (H : putW z off new = some out) (hz : RCells fid γ h cs base z) (hn : RCells fid γ h ns 0 new)
    (hsame : ∀ i v, i < off ∨ off + wds new ≤ i → cs[base + i]? = some v → cs'[base + i]? = some v) (hnew : ∀ i v, i < wds new → ns[i]? = some v → cs'[base + off + i]? = some v) :
    RCells fid γ h cs' base out ∧ wds out = wds z := by
  unfold putW at H
  split at H
  · rename_i a c ha hc
    injection H with H; subst H
    obtain ⟨a', e1, hw1⟩ := takeW_pre ha
    obtain ⟨c', e2, hw2⟩ := dropW_suf hc
    have hz1 := hz; rw [e1, RCells_app] at hz1
    have hz2 := hz; rw [e2, RCells_app] at hz2
    refine ⟨?_, ?_⟩
    · rw [RCells_app, RCells_app]
      refine ⟨RCells_at (fun i v hi hv => hsame i v (.inl (by omega)) hv) hz1.1, ?_, ?_⟩
      · refine RCells_at (fun i v hi hv => ?_) hn
        rw [hw1]; rw [Nat.zero_add] at hv; exact hnew i v hi hv
      · rw [hw1]
        rw [hw2] at hz2
        refine RCells_at (fun i v hi hv => ?_) hz2.2
        have := hsame (off + wds new + i) v (.inr (by omega)) (by rw [show base + (off + wds new + i) = base + (off + wds new) + i by omega]; exact hv)
        rw [show base + off + wds new + i = base + (off + wds new + i) by omega]; exact this
    · have h1 := congrArg wds e2
      rw [wds_app, hw2] at h1
      rw [wds_app, wds_app, hw1]; omega
  · cases H
theorem putW_fits {z new out : List PV} {off : Nat} (H : putW z off new = some out) : off + wds new ≤ wds z := by
  unfold putW at H
  split at H
  · rename_i a c ha hc
    obtain ⟨c', e2, hw2⟩ := dropW_suf hc
    rw [e2, wds_app, hw2]; omega
  · cases H
theorem putB_ok {fid : Nat → Nat} {γ : Gh} {h : Array Obj} {cs cs' ns : Array Value} {base off : Nat} {z new out : List PV} (H : putB z off new = some out) (hz : RCells fid γ h cs base z) (hn : RCells fid γ h ns 0 new)
    (hsame : ∀ i v, i < off ∨ off + wds new ≤ i → cs[base + i]? = some v → cs'[base + i]? = some v) (hnew : ∀ i v, i < wds new → ns[i]? = some v → cs'[base + off + i]? = some v) :
    RCells fid γ h cs' base out ∧ wds out = wds z := by
  unfold putB at H
  cases hp : putW z off new with
  | some z' =>
    simp only [hp, Option.some.injEq] at H; subst H
    exact putW_ok hp hz hn hsame hnew
  | none =>
    simp only [hp] at H
    unfold putB1 at H
    split at H
    · rename_i m xs v
      split at H
      · rename_i hc
        injection H with H; subst H
        have hwv : wds [v] = 1 := by
          cases v <;> simp only [scal, Bool.false_eq_true, and_false] at hc <;> rfl
        rw [hwv] at hsame hnew
        simp only [RCells, RAt] at hz ⊢
        obtain ⟨⟨_, hl, hb⟩, _⟩ := hz
        refine ⟨⟨⟨rfl, by simpa using hl, fun i x hx => ?_⟩, trivial⟩, by simp [wds, wd]⟩
        by_cases e : i = off
        · subst e
          rw [List.getElem?_set_self (by simpa using hc.1)] at hx
          injection hx with hx; subst hx
          simp only [RCells] at hn
          obtain ⟨u, hu, hs⟩ : ∃ u, ns[0]? = some u ∧ scalR v u := by
            have h1 := hn.1.2
            cases v <;> simp only [scal, Bool.false_eq_true, and_false] at hc <;> simp only [RAt] at h1
            · exact ⟨_, h1, rfl⟩
            · exact ⟨_, h1, rfl⟩
            · obtain ⟨s, e1, e2⟩ := h1; exact ⟨_, e1, s, rfl, e2⟩
          exact ⟨u, by simpa using hnew 0 u (by omega) hu, hs⟩
        · rw [List.getElem?_set_ne (Ne.symm e)] at hx
          obtain ⟨u, hu, hs⟩ := hb i x hx
          exact ⟨u, hsame i u (by omega) hu, hs⟩
      · cases H
    · cases H
theorem putB_fits {fid : Nat → Nat} {γ : Gh} {h : Array Obj} {cs : Array Value} {base : Nat} {z new out : List PV} {off : Nat} (hz : RCells fid γ h cs base z) (H : putB z off new = some out) : off + wds new ≤ wds z := by
  unfold putB at H
  cases hp : putW z off new with
  | some z' => exact putW_fits hp
  | none =>
    simp only [hp] at H
    unfold putB1 at H
    split at H
    · rename_i m xs v
      split at H
      · rename_i hc
        have hwv : wds [v] = 1 := by
          cases v <;> simp only [scal, Bool.false_eq_true, and_false] at hc <;> rfl
        simp only [RCells, RAt] at hz
        have := hz.1.2.1
        rw [hwv]; simp only [wds, wd]; omega
      · cases H
    · cases H
theorem fill_ok {fid : Nat → Nat} {γ : Gh} {h : Array Obj} (place : Nat → Option (Nat × Nat)) : ∀ (ps : List (Nat × Nat × PV)) (xs : List (Nat × Value)) (zc : List PV) (arr : Array Value) (out : List PV),
    bldC (some zc) ps = some out → RCells fid γ h arr 0 zc → arr.size = wds zc →
    ps.length = xs.length → (∀ (i : Nat) (p : Nat × Nat × PV) (x : Nat × Value), ps[i]? = some p → xs[i]? = some x → place x.1 = some (p.1, p.2.1) ∧ RV fid γ h x.2 p.2.2) →
    ∃ arr', Instr.fill place arr xs = some arr' ∧ arr'.size = wds out ∧ wds out = wds zc ∧ RCells fid γ h arr' 0 out
  | [], [], zc, arr, out, H, hz, hs, _, _ => by
    simp only [bldC, Option.some.injEq] at H; subst H
    exact ⟨arr, rfl, hs, rfl, hz⟩
  | (off, n, v) :: ps, (i, x) :: xs, zc, arr, out, H, hz, hs, hl, hp => by
    simp only [bldC] at H
    split at H
    · rename_i hc
      obtain ⟨hst, hw⟩ := hc
      obtain ⟨hpl, hxv⟩ := hp 0 _ _ rfl rfl
      obtain ⟨hsz, hcs⟩ := cells_ok hxv hst
      simp only at hpl hxv hsz hcs
      cases hpw : putB zc off (cellsOf v) with
      | none => rw [hpw] at H; cases ps <;> simp [bldC] at H
      | some zc' =>
        rw [hpw] at H
        have hfit := putB_fits hz hpw
        have hlen : x.cells.toList.length = wds (cellsOf v) := by rw [Array.length_toList]; exact hsz
        have hget := setCells_get x.cells.toList off 0 arr (by rw [hlen, hs]; omega)
        obtain ⟨hz', hw'⟩ := putB_ok (cs' := (x.cells.toList.zipIdx.foldl (fun cs (x : Value × Nat) => cs.setIfInBounds (off + x.2) x.1) arr)) hpw hz hcs
          (fun i u hi hu => by rw [Nat.zero_add] at hu ⊢; rw [hget, if_neg (by rw [hlen]; omega)]; exact hu)
          (fun i u hi hu => by
            rw [Nat.zero_add, hget, if_pos (by rw [hlen]; omega)]
            rw [show off + i - (off + 0) = i by omega, Array.getElem?_toList]; exact hu)
        obtain ⟨arr', h1, h2, h3, h4⟩ := fill_ok place ps xs zc' _ out H hz' (by rw [setCells_size, hs, hw']) (by simpa using hl) (fun i p y hp' hy => hp (i + 1) p y (by simpa using hp') (by simpa using hy))
        refine ⟨arr', ?_, h2, by rw [h3, hw'], h4⟩
        rw [Instr.fill]
        simp only [hpl]
        rw [if_neg (by simp only [Bool.or_eq_true, decide_eq_true_eq, not_or, ne_eq, Decidable.not_not]; omega)]
        rw [← Array.foldl_toList, Array.toList_zipIdx]
        exact h1
    · cases H
  | [], _ :: _, _, _, _, _, _, _, hl, _ => by simp at hl
  | _ :: _, [], _, _, _, _, _, _, hl, _ => by simp at hl
end
end
section
open Go Go.MapKept
theorem mapK_some {P : Program} {t et : TypeId} {k : IntKind} (h : mapK P t = some (k, et)) : ∃ kt, P.underlying t = some (.map kt et) ∧ P.underlying kt = some (.int k) := by
  unfold mapK at h
  split at h
  · rename_i kt et' hu
    split at h
    · rename_i k' hk
      simp only [Option.some.injEq, Prod.mk.injEq] at h
      obtain ⟨rfl, rfl⟩ := h
      exact ⟨kt, hu, hk⟩
    · cases h
  · cases h
theorem valR_RV {fid : Nat → Nat} {γ : Gh} {h : Array Obj} {v : PV} {x : Value} (H : valR fid v x) : RV fid γ h x v := by
  unfold valR at H
  split at H
  · exact RV_i.2 H
  · obtain ⟨f0, e, ef⟩ := H
    rw [RV_fn]
    exact ⟨f0, #[], #[], e, ef, ⟨rfl, by simp only [RL]⟩, rfl, by simp only [RL]⟩
  · cases H
theorem RV_valR {fid : Nat → Nat} {γ : Gh} {h : Array Obj} {v : PV} {x : Value} (hv : valV v = true) (H : RV fid γ h x v) : valR fid v x := by
  unfold valV at hv
  split at hv
  · simp only [valR]; exact RV_i.1 H
  · rw [RV_fn] at H
    obtain ⟨f0, a1, a2, e, ef, ⟨s1, _⟩, s2, _⟩ := H
    simp only [valR]
    have e1 : a1 = #[] := Array.eq_empty_of_size_eq_zero (by simpa using s1)
    have e2 : a2 = #[] := Array.eq_empty_of_size_eq_zero (by simpa using s2)
    exact ⟨f0, by rw [e, e1, e2], ef⟩
  · cases hv
theorem find_R {fid : Nat → Nat} {k : IntKind} (n : Int) : ∀ (L : List MapEntry) (l : List (Int × PV)) (i : Nat), EntR fid k L l →
    (Instr.findNow (.int k) (.int k n) L i = some none ∧ mget n l = none ∧ ∀ (e : MapEntry) u, e.key = .int k n → valR fid u e.val → EntR fid k (L ++ [e]) (mset n u l)) ∨
    ∃ (j : Nat) (e : MapEntry), Instr.findNow (.int k) (.int k n) L i = some (some (i + j, e.val)) ∧ L[j]? = some e ∧ e.key = .int k n ∧ (∃ u, mget n l = some u ∧ valR fid u e.val) ∧
      ∀ (f : MapEntry → MapEntry) u, (f e).key = .int k n → valR fid u (f e).val → EntR fid k (L.modify j f) (mset n u l)
  | [], [], i, _ => .inl ⟨rfl, rfl, fun e u h1 h2 => by simp only [List.nil_append, mset, EntR]; exact ⟨⟨h1, h2⟩, trivial⟩⟩
  | [], _ :: _, _, H => by simp [EntR] at H
  | _ :: _, [], _, H => by simp [EntR] at H
  | e :: L, (m, u0) :: l, i, H => by
    simp only [EntR] at H
    obtain ⟨⟨hk, hv⟩, H⟩ := H
    have hs : Instr.sameNow (.int k) (.int k n) e.key = some (n == m) := by rw [hk]; simp [Instr.sameNow]
    by_cases hn : n = m
    · subst hn
      refine .inr ⟨0, e, by simp [Instr.findNow, hs], rfl, hk, ⟨u0, by simp [mget], hv⟩, fun f u h1 h2 => ?_⟩
      simp only [mset, if_true, List.modify_zero_cons, EntR]
      exact ⟨⟨h1, h2⟩, H⟩
    · have hb : (n == m) = false := by simpa using hn
      rw [hb] at hs
      rcases find_R n L l (i + 1) H with ⟨h1, h2, h3⟩ | ⟨j, e', h1, h2, h3, ⟨u, h4, h5⟩, h6⟩
      · refine .inl ⟨by simp [Instr.findNow, hs, h1], by simp [mget, hn, h2], fun e' u g1 g2 => ?_⟩
        simp only [mset, if_neg hn, List.cons_append, EntR]
        exact ⟨⟨hk, hv⟩, h3 e' u g1 g2⟩
      · refine .inr ⟨j + 1, e', by simp [Instr.findNow, hs, h1]; omega, by simpa using h2, h3, ⟨u, by simp [mget, hn, h4], h5⟩, fun f u g1 g2 => ?_⟩
        simp only [mset, if_neg hn, List.modify_succ_cons, EntR]
        exact ⟨⟨hk, hv⟩, h6 f u g1 g2⟩
section
variable {P : Program} {E : Env} {C : Ctx} {γ : Gh} {w : World} {tmps : Array Value} {sl : SL} {ob : OB}
theorem map_at (S : St C γ w tmps sl ob) {o : Nat} {X : Obj'} {k : IntKind} {l : List (Int × PV)} {x : Value} (hX : getO ob o = some X) (hm : mpo X = some (k, l)) (hv : X.ver = 0) (hx : RV C.fid γ w.heap x (.m o)) :
    ∃ i b es clock, γ.mu o = some i ∧ i.blk = some b ∧ x = .map (some b) ∧ w.heap[b]? = some (.map es clock) ∧ EntR C.fid k es.toList l ∧ X.els = [] ∧ X.pu = false ∧ i.tot * i.w ≤ 0 ∧ X.w = i.w ∧ i.ver = 0 := by
  obtain ⟨i, hi, a, e, H⟩ := RV_m.1 hx
  obtain ⟨i', hi', h1, h2, h3, h4⟩ := S.obj o X hX
  rw [hi] at hi'; injection hi' with hi'; subst hi'
  obtain ⟨b, hb, rfl⟩ := H (by omega)
  simp only [hb] at h4
  obtain ⟨g1, cs, g2, g3, _⟩ := h4
  unfold ownM at g2
  rw [hm] at g2
  obtain ⟨⟨q1, q2, q3⟩, es, clock, q4, q5⟩ := g2
  subst q3
  exact ⟨i, b, es, clock, hi, hb, e, q4, q5, q1, q2, by simpa using g3, g1, by omega⟩
end
end
end Go.Proofs.Ytnkapponcbgbhaa
