import Derived.Test.YtnkapponcbgbhaaOpsT
import Derived.Laws.BitsLemmas
set_option linter.all false
namespace Go.Proofs.Ytnkapponcbgbhaa
section
open Go
def Gh.set (γ : Gh) (d : Nat) (i : HI) : Gh := { γ with mu := fun o => if o = d then some i else γ.mu o }
theorem heap_new (w : World) (o : Obj) : (w.alloc o).heap[w.heap.size]? = some o := by
  show (w.heap.push o)[w.heap.size]? = some o
  simp
theorem heap_old (w : World) (o : Obj) (i : Nat) (h : i < w.heap.size) : (w.alloc o).heap[i]? = w.heap[i]? := by
  show (w.heap.push o)[i]? = w.heap[i]?
  rw [Array.getElem?_push, if_neg (Nat.ne_of_lt h)]
theorem Chg.alloc (A : Nat → Prop) (w : World) (o : Obj) : Chg A w (w.alloc o) :=
  ⟨rfl, rfl, rfl, by simp, fun k hk _ => heap_old w o k hk⟩
theorem Chg.drew (A : Nat → Prop) (w : World) : Chg A w w.drew := ⟨rfl, rfl, rfl, Nat.le_refl _, fun _ _ _ => rfl⟩
theorem Chg.frz (A : Nat → Prop) (w : World) (a : Addr) (n : Nat) (h : A a.block) : Chg A w (w.freeze a n) := by
  unfold World.freeze
  split
  · exact Chg.refl A w
  · refine ⟨rfl, rfl, rfl, by simp, fun k _ hk => ?_⟩
    have : a.block ≠ k := fun e => hk (e ▸ h)
    simp [Array.getElem?_modify, this]
section
variable {C : Ctx} {γ : Gh} {w : World} {tmps : Array Value} {sl : SL} {ob : OB}
theorem blk_lt (S : St C γ w tmps sl ob) {o b : Nat} {i : HI} (hi : γ.mu o = some i) (hb : i.blk = some b) : b < w.heap.size := by
  obtain ⟨x, hx⟩ := S.dom o i hi
  obtain ⟨i', hi', _, _, _, h4⟩ := S.obj o x hx
  rw [hi] at hi'; injection hi' with hi'; subst hi'
  simp only [hb] at h4
  obtain ⟨_, cs, h, _⟩ := h4
  exact h.lt
theorem mu_none (S : St C γ w tmps sl ob) {d : Nat} (hd : getO ob d = none) : γ.mu d = none := by
  cases h : γ.mu d with
  | none => rfl
  | some i => obtain ⟨x, hx⟩ := S.dom d i h; rw [hd] at hx; cases hx
theorem St.newM (S : St C γ w tmps sl ob) {d : Nat} (hd : getO ob d = none) {w' : World} {cells : Array Value} {x : Obj'} (hown : ownM C.fid w'.heap w.heap.size cells x) (hold : ∀ i, i < w.heap.size → w'.heap[i]? = w.heap[i]?)
    (hchg : Chg (fun b => C.A b ∨ C.w0.heap.size ≤ b) w w') {i : HI} (hv : x.ver = i.ver) (hb : i.blk = some w.heap.size) (hc : ∀ c, x.cap = some c → i.tot = c)
    (hl : x.els.length ≤ i.tot) (hw : x.w = i.w) (hs : i.tot * i.w ≤ cells.size)
    (hels : (x.pu = true ∧ PEls w.heap (γ.q x.g) cells i.w 0 x.els) ∨ (x.pu = false ∧ REls C.fid γ w.heap cells i.w 0 x.els)) :
    (∀ S', Mv γ (γ.set d i) w.heap w'.heap S' (fun o => o)) ∧ St C (γ.set d i) w' tmps sl ([(d, x)] ++ ob) := by
  have hmu := mu_none S hd
  have hq : ∀ g b, γ.q g b → (γ.set d i).q g b ∧ w'.heap[b]? = w.heap[b]? := fun g b h => ⟨h, hold b (S.lt b h.1)⟩
  have hset : ∀ o, o ≠ d → (γ.set d i).mu o = γ.mu o := fun o ho => by simp [Gh.set, ho]
  have hver : ∀ o j, γ.mu o = some j → ∃ i', (γ.set d i).mu o = some i' ∧ (i' = j ∨ j.ver < i'.ver) := fun o j hj => by
    have : o ≠ d := fun e => by subst e; rw [hmu] at hj; cases hj
    exact ⟨j, by rw [hset o this]; exact hj, .inl rfl⟩
  have M : ∀ S', Mv γ (γ.set d i) w.heap w'.heap S' (fun o => o) := fun S' => ⟨fun o _ j hj => hver o j hj, hq⟩
  refine ⟨M, (S.change (γ' := γ.set d i) (u := [(d, x)]) ?_ hver ?_ rfl ?_ ?_ ?_ (fun b h => .inl h) hchg).2.2⟩
  · intro o ho
    simp only [getO] at ho
    split at ho
    · cases ho
    · rename_i h; exact hset o (Ne.symm h)
  · exact fun b h => ⟨h, hold b (S.lt b h)⟩
  · intro o j b _ hj hb'
    exact ⟨hold b (blk_lt S hj hb'), id⟩
  · intro o y hy
    simp only [getO] at hy
    split at hy
    · rename_i h
      subst h
      injection hy with hy; subst hy
      refine ⟨i, by simp [Gh.set], ⟨hv, hc, hl, ?_⟩, ?_⟩
      · simp only [hb]
        refine ⟨hw, cells, hown, hs, hels.imp (fun ⟨a, b⟩ => ⟨a, PEls_mono (hq _) _ _ _ _ b⟩) (fun ⟨a, b⟩ => ⟨a, REls_mono (M _) b⟩)⟩
      · intro b hb'
        rw [hb] at hb'; injection hb' with hb'; subst hb'
        refine ⟨.inr S.chg.size, fun _ h => absurd (S.lt _ h) (by omega), fun o' i' h1 h2 => ?_, .inr (S.fresh _ S.chg.size)⟩
        by_cases ho : o' = d
        · exact ho
        · rw [hset o' ho] at h1
          exact absurd (blk_lt S h1 h2) (by omega)
    · cases hy
  · intro b h
    have := S.lt b h; have := hchg.size; omega
theorem St.new (S : St C γ w tmps sl ob) {d : Nat} (hd : getO ob d = none) {w' : World} {cells : Array Value} (hown : ownAt w'.heap w.heap.size cells) (hold : ∀ i, i < w.heap.size → w'.heap[i]? = w.heap[i]?)
    (hchg : Chg (fun b => C.A b ∨ C.w0.heap.size ≤ b) w w') {x : Obj'} {i : HI} (hv : x.ver = i.ver) (hb : i.blk = some w.heap.size) (hc : ∀ c, x.cap = some c → i.tot = c)
    (hl : x.els.length ≤ i.tot) (hw : x.w = i.w) (hs : i.tot * i.w ≤ cells.size)
    (hels : (x.pu = true ∧ PEls w.heap (γ.q x.g) cells i.w 0 x.els) ∨ (x.pu = false ∧ REls C.fid γ w.heap cells i.w 0 x.els)) (hmp : mpo x = none := by first | rfl | assumption | exact mpo_pu (by assumption) | (unfold mpo; split <;> rfl)) :
    (∀ S', Mv γ (γ.set d i) w.heap w'.heap S' (fun o => o)) ∧ St C (γ.set d i) w' tmps sl ([(d, x)] ++ ob) :=
  S.newM hd (.of hmp hown) hold hchg hv hb hc hl hw hs hels
theorem run_newRow' {P : Program} (t : TypeId) (cells : Array Value) (w : World) : (newRow t cells).run P w = .ok ⟨w.heap.size, 0, none⟩ (w.alloc (.cells cells t)) := by
  simp [newRow]
theorem own_new (w : World) (cells : Array Value) (t : TypeId) : ownAt (w.alloc (.cells cells t)).heap w.heap.size cells :=
  ⟨t, (0, 0), heap_new w _, .inl rfl⟩
end
def OK (P : Program) (C : Ctx) (ρ : Operand → Value) (w : World) (tmps : Array Value) (sl : SL) (ob : OB) (o : Oper) (r : Up) : Prop :=
  ∃ (nx : Next) (x : Value) (w' : World) (γ' : Gh), (execOp ρ o).run P w = .ok nx w' ∧ (nx = .value x ∨ (nx = .skip ∧ x = undef)) ∧ RV C.fid γ' w'.heap x r.1 ∧ St C γ' w' tmps sl (r.2 ++ ob)
section
variable {P : Program} {E : Env} {C : Ctx} {γ : Gh} {w : World} {a : Act} {sl : SL} {ob : OB}
theorem newX_ok {d : Nat} {x : Obj'} {v : PV} {r : Up} (H : newX d x v (getO ob d) = some r) : getO ob d = none ∧ r = (v, [(d, x)]) := by
  cases h : getO ob d with
  | some y => simp [h, newX] at H
  | none => simp only [h, newX, Option.some.injEq] at H; exact ⟨rfl, H.symm⟩
theorem al_ok (S : St C γ w a.tmps sl ob) {d : Nat} {z : List PV} {r : Up} {cells : Array Value} {t : TypeId} (hz : RCells C.fid γ w.heap cells 0 z) (hs : cells.size = wds z) (H : al ob d z = some r) :
    ∃ γ', RV C.fid γ' (w.alloc (.cells cells t)).heap (.pointer (some ⟨w.heap.size, 0, none⟩)) r.1 ∧ St C γ' (w.alloc (.cells cells t)) a.tmps sl (r.2 ++ ob) := by
  obtain ⟨hd, rfl⟩ := newX_ok H
  have := S.new hd (own_new w cells t) (heap_old w _) (Chg.alloc _ w _) (x := boxO z) (i := ⟨0, some w.heap.size, wds z, 1⟩) rfl rfl (fun c h => by simp [boxO] at h) (by simp [boxO]) rfl (by simp; omega)
    (.inr ⟨rfl, by simp only [boxO, REls, and_true]; exact ⟨trivial, hz⟩⟩)
  exact ⟨_, RV_p.2 ⟨_, by simp [Gh.set]; rfl, Nat.le_refl _, _, rfl, fun _ => ⟨w.heap.size, rfl, by simp⟩⟩, this.2⟩
theorem wd_zp (v : PV) : wd (zp v) = wd v := by cases v <;> rfl
theorem wds_zps : ∀ z, wds (zps z) = wds z
  | [] => rfl
  | v :: r => by simp only [zps, wds, wd_zp, wds_zps r]
theorem cellsB_P {h : Array Obj} {q : Nat → Prop} : ∀ (z : List PV) (l : List Value) (arr : Array Value) (off : Nat), cellsB l z = true → isPures (zps z) = true → (∀ (i : Nat) v, l[i]? = some v → arr[off + i]? = some v) → PCells h q arr off (zps z)
  | [], _, _, _, _, _, _ => by simp only [zps, PCells]
  | p :: r, l, arr, off, H, hp, ha => by
    simp only [zps, PCells]
    simp only [zps, isPures, Bool.and_eq_true] at hp
    unfold cellsB at H
    split at H
    · simp_all
    · rename_i n xs r' e
      injection e with e1 e2; subst e1; subst e2
      simp only [Bool.and_eq_true, beq_iff_eq] at H
      obtain ⟨⟨⟨h1, h2⟩, h3⟩, h4⟩ := H
      refine ⟨by simp only [zp, PAt]; exact ⟨h1, cellsB_blob h2 h1 h3 ha⟩, cellsB_P _ _ _ _ h4 hp.2 fun i v hi => ?_⟩
      rw [wd_zp]; simp only [wd]
      rw [List.getElem?_drop] at hi
      rw [Nat.add_assoc]; exact ha _ _ hi
    · rename_i v c x r' hn e
      injection e with e1 e2; subst e1; subst e2
      simp only [Bool.and_eq_true] at H
      have h0 : arr[off]? = some v := by simpa using ha 0 v rfl
      have hw1 : wd p = 1 := (cellB_ok (fid := id) (γ := ⟨fun _ => none, fun _ => False, fun _ => False⟩) (h := #[]) H.1).2
      refine ⟨?_, cellsB_P _ _ _ _ H.2 hp.2 fun i u hi => ?_⟩
      · have hc := H.1
        have hp1 := hp.1
        unfold cellB at hc
        split at hc
        · simp at hc; subst hc; simpa only [zp, PAt] using h0
        · simp at hc; obtain ⟨rfl, rfl⟩ := hc; simpa only [zp, PAt] using h0
        · simp at hc; simp only [zp, PAt]; exact ⟨_, h0, hc⟩
        · simp only [zp, PAt]; exact ⟨none, 0, h0, Nat.zero_le _, .inl trivial⟩
        · simp [zp, isPure] at hp1
        · simp [zp, isPure] at hp1
        · simp [zp, isPure] at hp1
        · simp [zp, isPure] at hp1
        · cases hc
      · rw [wd_zp, hw1, Nat.add_assoc, Nat.add_comm 1 i]
        exact ha (i + 1) u (by simpa using hi)
    · cases H
theorem zeros_ok {h : Array Obj} {q : Nat → Prop} {z : List PV} {zc arr : Array Value} {n off : Nat} (hz : PCells h q zc 0 (zps z)) (ha : ∀ j, j < n * wds z → arr[off + j]? = zc[j % wds z]?) :
    PEls h q arr (wds z) off (List.replicate n (zps z)) :=
  PEls_of fun i x hx => by
    have hi : i < n := by have := (List.getElem?_eq_some_iff.1 hx).1; simpa using this
    rw [List.getElem?_replicate, if_pos hi] at hx
    injection hx with hx; subst hx
    refine ⟨wds_zps z, PCells_at (fun j y hj hy => ?_) hz⟩
    rw [wds_zps] at hj
    have hm : i * wds z + j < n * wds z := by
      have := Nat.mul_le_mul_right (wds z) (show i + 1 ≤ n by omega)
      rw [Nat.succ_mul] at this; omega
    have := ha (i * wds z + j) hm
    rw [Nat.mul_comm i, Nat.mul_add_mod, Nat.mod_eq_of_lt hj, ← Nat.add_assoc, Nat.mul_comm _ i] at this
    rw [this]; rw [Nat.zero_add] at hy; exact hy
theorem range_map_get {n : Nat} {zc : Array Value} (hp : 0 < n → 0 < zc.size) (j : Nat) (hj : j < n) : ((Array.range n).map (zc[· % zc.size]!))[j]? = zc[j % zc.size]? := by
  have hlt : j % zc.size < zc.size := Nat.mod_lt _ (hp (by omega))
  simp [hj, getElem!_pos, hlt]
theorem wrap_small {n : Int} (h0 : 0 ≤ n) (h1 : n ≤ 4294967296) : IntKind.i64.wrap n = n := by
  rw [IntKind.wrap_i64]; omega
theorem mks_ok (S : St C γ w a.tmps sl ob) {d : Nat} {t e : TypeId} {z : List PV} {xv : PV} {x : Value} {r : Up} (hu : P.underlying t = some (.slice e)) (hz : zeroT P e = some z) (hx : RV C.fid γ w.heap x xv) (H : mks ob d z xv = some r) :
    ∃ (y : Value) (w' : World) (γ' : Gh), (Instr.makeSlice t x x).run P w = .ok y w' ∧ RV C.fid γ' w'.heap y r.1 ∧ St C γ' w' a.tmps sl (r.2 ++ ob) := by
  unfold mks at H
  split at H
  · rename_i k n
    split at H
    · rename_i hc
      obtain ⟨h0, hn, hpu⟩ := hc
      rw [RV_i] at hx; subst hx
      obtain ⟨hd, rfl⟩ := newX_ok H
      obtain ⟨i, zv, hi, hzv, hs1, hs2, hb, hcB, hR⟩ := zeroT_R (fid := C.fid) (γ := γ) (h := w.heap) hz
      simp only [two32] at hn
      have hwr : IntKind.i64.wrap n = n := wrap_small h0 hn
      have hbig : ¬ ((i.bytes : Int) * n > 2 ^ 48) := by
        have h1 : (i.bytes : Int) * n ≤ 4096 * n := Int.mul_le_mul_of_nonneg_right (by omega) h0
        omega
      obtain ⟨m, rfl⟩ : ∃ m : Nat, n = m := ⟨n.toNat, by omega⟩
      have hpz := cellsB_P (h := w.heap) (q := γ.q true) z zv.cells.toList zv.cells 0 hcB hpu (fun j v hj => by rw [Nat.zero_add]; simpa using hj)
      let cells : Array Value := (Array.range (m * wds z)).map ((if m * wds z = 0 then #[] else zv.cells)[· % (if m * wds z = 0 then #[] else zv.cells).size]!)
      have hcs : cells.size = m * wds z := by simp [cells]
      have hget : ∀ j, j < m * wds z → cells[0 + j]? = zv.cells[j % wds z]? := by
        intro j hj
        have hne : ¬ (m * wds z = 0) := by omega
        simp only [cells, if_neg hne, Nat.zero_add]
        have h1 : 0 < wds z := Nat.pos_of_ne_zero (fun e => by rw [e] at hj; simp at hj)
        rw [range_map_get (fun _ => by rw [hs1]; exact h1) j hj, hs1]
      have hE := zeros_ok (n := m) hpz hget
      have hrun : (Instr.makeSlice t (.int k m) (.int k m)).run P w = .ok (.slice (some ⟨w.heap.size, 0, none⟩) m m) (w.alloc (.cells cells e)) := by
        have hsz : (sizeOf e).run P w = .ok (wds z) w := by simp [sizeOf, typeInfo, hi, hs2]
        unfold Instr.makeSlice
        simp only [Sem.run_bind, run_underlying' hu, Result.andThen_ok, asInt, asIntOf, Sem.run_pure, typeInfo, run_program, hi, hwr]
        rw [if_neg (by
          simp only [Bool.or_eq_true, decide_eq_true_eq, not_or]
          exact ⟨⟨⟨by omega, hbig⟩, by omega⟩, by omega⟩)]
        simp only [Sem.run_bind, run_askRoom, Result.andThen_ok, hsz, Int.toNat_natCast, cells]
        by_cases hm0 : m * wds z = 0
        · simp [hm0, run_newRow']
        · simp [hm0, run_newRow', run_zeroValue' hi hzv]
      have := S.new hd (own_new w cells e) (heap_old w _) (Chg.alloc _ w _) (x := { els := List.replicate m (zps z), w := wds z, pu := true, g := true, cap := some m, ver := 0, fro := false }) (i := ⟨0, some w.heap.size, wds z, m⟩) rfl rfl
        (fun c h => by injection h) (by simp) rfl (by simp only; omega) (.inl ⟨rfl, hE⟩)
      refine ⟨_, _, _, hrun, RV_sl.2 ⟨_, by simp [Gh.set]; rfl, Nat.le_refl _, _, _, rfl, fun _ => ⟨by simp, Nat.le_refl _, fun _ => ⟨w.heap.size, rfl, by simp⟩⟩⟩, this.2⟩
    · cases H
  · cases H
theorem bx_ok (S : St C γ w a.tmps sl ob) {d : Nat} {v : PV} {x : Value} {r : Up} {t : TypeId} (hx : RV C.fid γ w.heap x v) (H : bx ob d v = some r) :
    ∃ γ', (Instr.box t x).run P w = .ok (.pointer (some ⟨w.heap.size, 0, none⟩)) (w.alloc (.cells x.cells t)) ∧ RV C.fid γ' (w.alloc (.cells x.cells t)).heap (.pointer (some ⟨w.heap.size, 0, none⟩)) r.1 ∧ St C γ' (w.alloc (.cells x.cells t)) a.tmps sl (r.2 ++ ob) := by
  unfold bx at H
  split at H
  · rename_i hs
    obtain ⟨h1, h2⟩ := cells_ok hx hs
    obtain ⟨γ', g1, g2⟩ := al_ok (t := t) S h2 h1 H
    exact ⟨γ', by simp [Instr.box, newVar, run_newRow'], g1, g2⟩
  · cases H
theorem alloc_ok (S : St C γ w a.tmps sl ob) {d : Nat} {z : List PV} {r : Up} {t : TypeId} (hz : zeroT P t = some z) (H : al ob d z = some r) :
    ∃ (y : Value) (w' : World) (γ' : Gh), (Instr.alloc t true (.tuple #[])).run P w = .ok y w' ∧ RV C.fid γ' w'.heap y r.1 ∧ St C γ' w' a.tmps sl (r.2 ++ ob) := by
  obtain ⟨i, zv, hi, hzv, hs1, hs2, hb, hcB, hR⟩ := zeroT_R (fid := C.fid) (γ := γ) (h := w.heap) hz
  obtain ⟨γ', g1, g2⟩ := al_ok (t := t) S hR hs1 H
  exact ⟨_, _, γ', by simp [Instr.alloc, run_zeroValue' hi hzv, newVar, run_newRow'], g1, g2⟩
end
end
section
open Go
theorem oneCell_of {h : Array Obj} {q : Nat → Prop} {cs : Array Value} : ∀ {l : List PV} {off : Nat}, PCells h q cs off l → ∀ i, i < wds l → ∃ v, cs[off + i]? = some v ∧ v.oneCell' = true
  | [], _, _, i, hi => by simp [wds] at hi
  | p :: r, off, H, i, hi => by
    simp only [PCells] at H
    simp only [wds] at hi
    by_cases hv : i < wd p
    · have H1 := H.1
      cases p <;> simp only [PAt, wd] at H1 hv
      case b => have : i = 0 := by omega
                subst this; exact ⟨_, H1, rfl⟩
      case i => have : i = 0 := by omega
                subst this; exact ⟨_, H1, rfl⟩
      case s => have : i = 0 := by omega
                subst this; obtain ⟨s, e, _⟩ := H1; exact ⟨_, e, rfl⟩
      case l => have : i = 0 := by omega
                subst this; obtain ⟨_, _, e, _⟩ := H1; exact ⟨_, e, rfl⟩
      case blob n xs =>
        obtain ⟨v, hv', hs⟩ := H1.2 i (xs[i]'(by omega)) (List.getElem?_eq_getElem (by omega))
        refine ⟨v, hv', ?_⟩
        generalize xs[i]'(by omega) = x at hs
        cases x <;> simp only [scalR] at hs
        · rw [hs]; rfl
        · rw [hs]; rfl
        · obtain ⟨s, e, _⟩ := hs; rw [e]; rfl
    · obtain ⟨v, h1, h2⟩ := oneCell_of H.2 (i - wd p) (by omega)
      exact ⟨v, by rw [show off + i = off + wd p + (i - wd p) by omega]; exact h1, h2⟩
theorem scalR_one {x : PV} {v : Value} (hs : scalR x v) : v.oneCell' = true := by
  cases x <;> simp only [scalR] at hs
  · rw [hs]; rfl
  · rw [hs]; rfl
  · obtain ⟨s, e, _⟩ := hs; rw [e]; rfl
theorem oneCell_R {fid : Nat → Nat} {γ : Gh} {h : Array Obj} {cs : Array Value} : ∀ {l : List PV} {off : Nat}, RCells fid γ h cs off l → ∀ i, i < wds l → ∃ v, cs[off + i]? = some v ∧ v.oneCell' = true
  | [], _, _, i, hi => by simp [wds] at hi
  | p :: r, off, H, i, hi => by
    simp only [RCells] at H
    simp only [wds] at hi
    by_cases hv : i < wd p
    · obtain ⟨H0, H1⟩ := H.1
      have z : wd p = 1 → i = 0 := fun h => by omega
      cases p <;> simp only [cellV, Bool.false_eq_true] at H0 <;> simp only [RAt] at H1
      case blob n xs =>
        simp only [wd] at hv
        obtain ⟨v, hv', hs⟩ := H1.2 i (xs[i]'(by omega)) (List.getElem?_eq_getElem (by omega))
        exact ⟨v, hv', scalR_one hs⟩
      all_goals (have z := z rfl; subst z)
      case b => exact ⟨_, H1, rfl⟩
      case i => exact ⟨_, H1, rfl⟩
      case s => obtain ⟨s, e, _⟩ := H1; exact ⟨_, e, rfl⟩
      case l => simp only [PAt] at H1; obtain ⟨_, _, e, _⟩ := H1; exact ⟨_, e, rfl⟩
      case ln => obtain ⟨_, _, _, _, e⟩ := H1; exact ⟨_, e, rfl⟩
      case e => obtain ⟨_, e, _⟩ := H1; exact ⟨_, e, rfl⟩
      case sl => obtain ⟨_, _, _, _, _, e, _⟩ := H1; exact ⟨_, e, rfl⟩
      case bs => obtain ⟨_, _, _, _, e, _⟩ := H1; exact ⟨_, e, rfl⟩
      case p => obtain ⟨_, _, _, _, e, _⟩ := H1; exact ⟨_, e, rfl⟩
      case q => obtain ⟨_, _, _, e, _⟩ := H1; exact ⟨_, e, rfl⟩
      case np => exact ⟨_, H1, rfl⟩
      case fn => obtain ⟨_, _, _, e, _⟩ := H1; exact ⟨_, e, rfl⟩
      case nf => exact ⟨_, H1, rfl⟩
      case m => obtain ⟨_, _, _, e, _⟩ := H1; exact ⟨_, e, rfl⟩
      case ifc => obtain ⟨_, e, _⟩ := H1; exact ⟨_, e, rfl⟩
      case ni => exact ⟨_, H1, rfl⟩
      case nm => exact ⟨_, H1, rfl⟩
    · obtain ⟨v, h1, h2⟩ := oneCell_R H.2 (i - wd p) (by omega)
      exact ⟨v, by rw [show off + i = off + wd p + (i - wd p) by omega]; exact h1, h2⟩
structure Wr (w w' : World) (b : Nat) : Prop where
  os : w'.os = w.os
  tape : w'.tape = w.tape
  output : w'.output = w.output
  size : w'.heap.size = w.heap.size
  other : ∀ k, k ≠ b → w'.heap[k]? = w.heap[k]?
theorem Wr.refl (w : World) (b : Nat) : Wr w w b := ⟨rfl, rfl, rfl, rfl, fun _ _ => rfl⟩
theorem Wr.trans {w w' w'' : World} {b : Nat} (h : Wr w w' b) (k : Wr w' w'' b) : Wr w w'' b :=
  ⟨k.os.trans h.os, k.tape.trans h.tape, k.output.trans h.output, k.size.trans h.size, fun i hi => (k.other i hi).trans (h.other i hi)⟩
theorem Wr.chg {A : Nat → Prop} {w w' : World} {b : Nat} (h : Wr w w' b) (hb : A b) : Chg A w w' :=
  ⟨h.os, h.tape, h.output, by rw [h.size]; exact Nat.le_refl _, fun k _ hk => h.other k (fun e => hk (e ▸ hb))⟩
theorem run_storeCells_own {P : Program} (b o : Nat) (t : TypeId) (fr : Nat × Nat) : ∀ (vs : List Value) (i : Nat) (cs : Array Value) (w : World), w.heap[b]? = some (.cells cs t fr) →
    (fr.1 = fr.2 ∨ cs.size ≤ fr.1) → o + i + vs.length ≤ cs.size → (∀ v ∈ vs, v.oneCell' = true) →
    ∃ w' cs', (storeCells ⟨b, o, none⟩ vs i).run P w = .ok () w' ∧ w'.heap[b]? = some (.cells cs' t fr) ∧ cs'.size = cs.size ∧ Wr w w' b ∧
      ∀ k, cs'[k]? = if o + i ≤ k ∧ k < o + i + vs.length then vs[k - (o + i)]? else cs[k]?
  | [], i, cs, w, hb, _, _, _ => ⟨w, cs, rfl, hb, rfl, Wr.refl _ _, fun k => by rw [if_neg (by simp)]⟩
  | v :: r, i, cs, w, hb, hf, hl, h1 => by
    simp only [List.length_cons] at hl
    have hlt : o + i < cs.size := by omega
    have hc : w.cell? ⟨b, o + i, none⟩ = some cs[o + i] := by simp [World.cell?, hb, hlt]
    have hfr : w.frozen? ⟨b, o + i, none⟩ = false := by
      have : ¬ (fr.1 ≤ o + i ∧ o + i < fr.2) := by omega
      simp only [World.frozen?, hb]
      by_cases h : fr.1 ≤ o + i ∧ o + i < fr.2
      · exact absurd h this
      · simp only [Bool.and_eq_false_iff, decide_eq_false_iff_not]; omega
    have hst : (store ((⟨b, o, none⟩ : Addr).add i) v).run P w = .ok () (w.setCell ⟨b, o + i, none⟩ v) := by
      rw [add_none, run_store P w _ v .plain (h1 v (by simp))]
      simp [hc, hfr]
    have hb' : (w.setCell ⟨b, o + i, none⟩ v).heap[b]? = some (.cells (cs.setIfInBounds (o + i) v) t fr) := by
      simp [World.setCell, Array.getElem?_modify, hb]
    have hw : Wr w (w.setCell ⟨b, o + i, none⟩ v) b := ⟨rfl, rfl, rfl, by simp, fun k hk => by
      simp only [World.setCell, Array.getElem?_modify]; rw [if_neg (fun e => hk e.symm)]⟩
    obtain ⟨w', cs', g1, g2, g3, g4, g5⟩ := run_storeCells_own (P := P) b o t fr r (i + 1) (cs.setIfInBounds (o + i) v) _ hb' (by simpa using hf) (by simp; omega) (fun u hu => h1 u (by simp [hu]))
    refine ⟨w', cs', ?_, g2, by rw [g3]; simp, hw.trans g4, fun k => ?_⟩
    · rw [storeCells]; simp only [Sem.run_bind, hst, Result.andThen_ok, g1]
    · rw [g5]
      simp only [List.length_cons]
      by_cases h : k = o + i
      · subst h
        rw [if_neg (by omega), if_pos (by omega)]
        simp [hlt]
      · by_cases h2 : o + (i + 1) ≤ k ∧ k < o + (i + 1) + r.length
        · rw [if_pos h2, if_pos (by omega)]
          rw [show k - (o + i) = (k - (o + (i + 1))) + 1 by omega, List.getElem?_cons_succ]
        · rw [if_neg h2, if_neg (by omega), Array.getElem?_setIfInBounds_ne (by omega)]
section
variable {C : Ctx} {γ : Gh} {w : World} {tmps : Array Value} {sl : SL} {ob : OB}
def Gh.frz (γ : Gh) (u : OB) : Gh := { γ with im := fun b => γ.im b ∨ ∃ o x i, getO u o = some x ∧ γ.mu o = some i ∧ i.blk = some b }
theorem blk_gn (S : St C γ w tmps sl ob) {o b : Nat} {i : HI} (hi : γ.mu o = some i) (hb : i.blk = some b) : γ.gn b := by
  rw [S.gn]; exact S.gnew b (S.own o i b hi hb)
theorem St.frz (S : St C γ w tmps sl ob) {u : OB} (hu : ∀ o x', getO u o = some x' → ∃ x, getO ob o = some x ∧ x' = { x with fro := true }) :
    (∀ S', Mv γ (γ.frz u) w.heap w.heap S' (fun o => o)) ∧ St C (γ.frz u) w tmps sl (u ++ ob) := by
  have hq : ∀ g b, γ.q g b → (γ.frz u).q g b ∧ w.heap[b]? = w.heap[b]? := fun g b h => ⟨⟨.inl h.1, h.2⟩, rfl⟩
  have M : ∀ S', Mv γ (γ.frz u) w.heap w.heap S' (fun o => o) := fun S' => ⟨fun o _ j hj => ⟨j, hj, .inl rfl⟩, hq⟩
  refine ⟨M, (S.change (γ' := γ.frz u) (u := u) (fun _ _ => rfl) (fun o i hi => ⟨i, hi, .inl rfl⟩) (fun b h => ⟨.inl h, rfl⟩) rfl ?_ ?_ ?_ (fun b h => h.imp id fun ⟨o, _, i, _, h2, h3⟩ => S.own o i b h2 h3) (Chg.refl _ _)).2.2⟩
  · intro o i b ho hi hb
    refine ⟨rfl, fun h => ?_⟩
    rcases h with h | ⟨o', x, i', h1, h2, h3⟩
    · exact h
    · have := S.inj o o' i i' b hi h2 hb h3
      subst this; rw [ho] at h1; cases h1
  · intro o x' hx'
    obtain ⟨x, hx, rfl⟩ := hu o x' hx'
    obtain ⟨i, hi, h⟩ := S.obj o x hx
    refine ⟨i, hi, ?_, fun b hb => ⟨S.own o i b hi hb, (fun h => by cases h), (fun o' i' h1 h2 => S.inj o' o i' i b h1 hi h2 hb), S.place o i b hi hb⟩⟩
    exact ORel_mono (M _) (fun _ _ => rfl) (x := { x with fro := true }) h
  · intro b h
    rcases h with h | ⟨o', x, i', h1, h2, h3⟩
    · exact S.lt b h
    · exact blk_lt S h2 h3
theorem St.updM (S : St C γ w tmps sl ob) {o b : Nat} {x x' : Obj'} {i : HI} (hx : getO ob o = some x) (hf : x.fro = false) (hi : γ.mu o = some i) (hb : i.blk = some b) {w' : World} (hw : Wr w w' b) {cs : Array Value}
    (hown : ownM C.fid w'.heap b cs x') (hs : i.tot * i.w ≤ cs.size) (hv : x'.ver = x.ver) (hc : x'.cap = x.cap) (hl : x'.els.length = x.els.length) (hw' : x'.w = x.w)
    (hels : (x'.pu = true ∧ PEls w.heap (γ.q x'.g) cs i.w 0 x'.els) ∨ (x'.pu = false ∧ REls C.fid γ w.heap cs i.w 0 x'.els)) :
    St C γ w' tmps sl ([(o, x')] ++ ob) := by
  have hnim := S.unf o x i b hx hf hi hb
  have him : ∀ b', γ.im b' → γ.im b' ∧ w'.heap[b']? = w.heap[b']? := fun b' h => ⟨h, hw.other b' (fun e => hnim (e ▸ h))⟩
  have M : ∀ S', Mv γ γ w.heap w'.heap S' (fun o => o) := fun S' => ⟨fun o _ j hj => ⟨j, hj, .inl rfl⟩, fun g b' h => ⟨h, (him b' h.1).2⟩⟩
  obtain ⟨i', hi', h1, h2, h3, h4⟩ := S.obj o x hx
  rw [hi] at hi'; injection hi' with hi'; subst hi'
  simp only [hb] at h4
  refine (S.change (γ' := γ) (u := [(o, x')]) (fun _ _ => rfl) (fun o i hi => ⟨i, hi, .inl rfl⟩) him rfl ?_ ?_ ?_ (fun b h => .inl h) (hw.chg (S.own o i b hi hb))).2.2
  · intro o' j b' ho hj hb'
    refine ⟨hw.other b' (fun e => ?_), id⟩
    subst e
    have := S.inj o' o j i b' hj hi hb' hb
    subst this
    simp [getO] at ho
  · intro o' y hy
    simp only [getO] at hy
    split at hy
    · rename_i e; subst e
      injection hy with hy; subst hy
      refine ⟨i, hi, ⟨by rw [hv, h1], by rw [hc]; exact h2, by rw [hl]; exact h3, ?_⟩, fun b' hb' => ⟨S.own o i b' hi hb', fun _ => S.unf o x i b' hx hf hi hb', (fun o' i' g1 g2 => S.inj o' o i' i b' g1 hi g2 hb'), S.place o i b' hi hb'⟩⟩
      simp only [hb]
      exact ⟨by rw [hw', h4.1], cs, hown, hs, hels.imp (fun ⟨a, b⟩ => ⟨a, PEls_mono (fun b' h => ⟨h, (him b' h.1).2⟩) _ _ _ _ b⟩) (fun ⟨a, b⟩ => ⟨a, REls_mono (M _) b⟩)⟩
    · cases hy
  · intro b' h
    rw [hw.size]; exact S.lt b' h
theorem St.upd (S : St C γ w tmps sl ob) {o b : Nat} {x x' : Obj'} {i : HI} (hx : getO ob o = some x) (hf : x.fro = false) (hi : γ.mu o = some i) (hb : i.blk = some b) {w' : World} (hw : Wr w w' b) {cs : Array Value}
    (hown : ownAt w'.heap b cs) (hs : i.tot * i.w ≤ cs.size) (hv : x'.ver = x.ver) (hc : x'.cap = x.cap) (hl : x'.els.length = x.els.length) (hw' : x'.w = x.w)
    (hels : (x'.pu = true ∧ PEls w.heap (γ.q x'.g) cs i.w 0 x'.els) ∨ (x'.pu = false ∧ REls C.fid γ w.heap cs i.w 0 x'.els)) (hmp : mpo x' = none := by first | rfl | assumption | exact mpo_pu (by assumption) | (unfold mpo; split <;> rfl)) :
    St C γ w' tmps sl ([(o, x')] ++ ob) := S.updM hx hf hi hb hw (.of hmp hown) hs hv hc hl hw' hels
def FrzOf (ob u : OB) : Prop := ∀ o x', getO u o = some x' → ∃ x, getO ob o = some x ∧ x' = { x with fro := true }
theorem FrzOf.app {u u' : OB} (h : FrzOf ob u) (h' : FrzOf ob u') : FrzOf ob (u ++ u') := by
  intro o x' hx
  rw [getO_app] at hx
  split at hx
  · rename_i y hy; injection hx with hx; subst hx; exact h o _ hy
  · exact h' o x' hx
theorem FrzOf.nil : FrzOf ob [] := fun o x' h => by simp [getO] at h
theorem puri_ok {act : Act} (S : St C γ w act.tmps sl ob) {v v' : PV} {g : Bool} {u : OB} {cs : Array Value} {off : Nat} (H : puri ob v = some (v', g, u)) (hr : RAt C.fid γ w.heap cs off v) :
    FrzOf ob u ∧ wd v' = wd v ∧ ∀ u' : OB, (∀ o x, getO u o = some x → ∃ x, getO u' o = some x) → PAt w.heap ((γ.frz u').q g) cs off v' := by
  have mono : ∀ (u' : OB) g b, γ.q g b → (γ.frz u').q g b ∧ w.heap[b]? = w.heap[b]? := fun u' g b h => ⟨⟨.inl h.1, h.2⟩, rfl⟩
  unfold puri at H
  split at H
  · injection H with H; injection H with e1 H; injection H with e2 e3; subst e1; subst e2; subst e3
    simp only [RAt] at hr
    exact ⟨FrzOf.nil, rfl, fun u' _ => PAt_mono (mono u' _) _ _ _ hr⟩
  · injection H with H; injection H with e1 H; injection H with e2 e3; subst e1; subst e2; subst e3
    simp only [RAt] at hr
    exact ⟨FrzOf.nil, rfl, fun u' _ => PAt_mono (mono u' _) _ _ _ hr.1⟩
  · injection H with H; injection H with e1 H; injection H with e2 e3; subst e1; subst e2; subst e3
    simp only [RAt] at hr
    obtain ⟨a, e, _⟩ := hr
    exact ⟨FrzOf.nil, rfl, fun u' _ => by simp only [PAt]; exact ⟨a, 0, e, Nat.zero_le _, .inl trivial⟩⟩
  · rename_i o ver lo n
    cases hx : getO ob o with
    | none => simp [hx, frzX] at H
    | some x =>
      cases hc : contX (some x) ver lo n with
      | none => simp [hx, hc, frzX] at H
      | some r =>
        simp only [hx, hc, frzX, Option.some.injEq, Prod.mk.injEq] at H
        obtain ⟨e1, e2, e3⟩ := H
        subst e1; subst e2; subst e3
        have hu : FrzOf ob [(o, { x with fro := true })] := by
          intro o' x' h
          simp only [getO] at h
          split at h
          · rename_i e; subst e; injection h with h; exact ⟨x, hx, h.symm⟩
          · cases h
        refine ⟨hu, rfl, fun u' hu' => ?_⟩
        simp only [RAt] at hr
        obtain ⟨i, hi, hv, a, c, e, hh⟩ := hr
        have hsl : RV C.fid γ w.heap (.slice a n c) (.sl o ver lo n) := RV_sl.2 ⟨i, hi, hv, a, c, rfl, hh⟩
        obtain ⟨⟨a', c', e', hlc, hS⟩, hlen⟩ := contX_ok S hsl (by rw [hx]; exact hc)
        injection e' with e1 e2 e3; subst e1; subst e3
        simp only [PAt]
        refine ⟨a, c, by rw [hlen]; exact e, hlc, ?_⟩
        rcases Nat.eq_zero_or_pos n with h0 | hpos
        · exact .inl (List.length_eq_zero_iff.1 (hlen.trans h0))
        refine hS.imp id ?_
        rintro ⟨b, o', w', cs', ea, hrow, hE⟩
        have hbk : i.blk = some b := by
          obtain ⟨i', hi', h1, _⟩ := S.obj o x hx
          rw [hi] at hi'; injection hi' with hi'; subst hi'
          have hver : x.ver = ver := by
            simp only [contX] at hc
            split at hc
            · rename_i h; exact h.2.1
            · cases hc
          obtain ⟨g1, g2, g3⟩ := hh (by omega)
          obtain ⟨b', hb', ea'⟩ := g3 (by omega)
          rw [ea] at ea'; injection ea' with ea'; injection ea' with ea' _; rw [ea']; exact hb'
        obtain ⟨y, hy⟩ := hu' o { x with fro := true } (by simp [getO])
        exact ⟨b, o', w', cs', ea, ⟨.inr ⟨o, y, i, hy, hi, hbk⟩, fun _ => blk_gn S hi hbk⟩, hrow, PEls_mono (mono u' _) _ _ _ _ hE⟩
  · injection H with H; injection H with e1 H; injection H with e2 e3; subst e1; subst e2; subst e3
    exact ⟨FrzOf.nil, rfl, fun u' _ => by simpa only [PAt, RAt] using hr⟩
  · injection H with H; injection H with e1 H; injection H with e2 e3; subst e1; subst e2; subst e3
    exact ⟨FrzOf.nil, rfl, fun u' _ => by simpa only [PAt, RAt] using hr⟩
  · injection H with H; injection H with e1 H; injection H with e2 e3; subst e1; subst e2; subst e3
    exact ⟨FrzOf.nil, rfl, fun u' _ => by simpa only [PAt, RAt] using hr⟩
  · injection H with H; injection H with e1 H; injection H with e2 e3; subst e1; subst e2; subst e3
    exact ⟨FrzOf.nil, rfl, fun u' _ => by simpa only [PAt, RAt] using hr⟩
  · cases H
theorem puris_ok {act : Act} (S : St C γ w act.tmps sl ob) : ∀ {l l' : List PV} {g : Bool} {u : OB} {cs : Array Value} {off : Nat}, puris ob l = some (l', g, u) → RCells C.fid γ w.heap cs off l →
    FrzOf ob u ∧ wds l' = wds l ∧ ∀ u' : OB, (∀ o x, getO u o = some x → ∃ x, getO u' o = some x) → PCells w.heap ((γ.frz u').q g) cs off l'
  | [], l', g, u, cs, off, H, _ => by
    simp only [puris, Option.some.injEq, Prod.mk.injEq] at H
    obtain ⟨e1, e2, e3⟩ := H; subst e1; subst e2; subst e3
    exact ⟨FrzOf.nil, rfl, fun _ _ => by simp only [PCells]⟩
  | v :: r, l', g, u, cs, off, H, hr => by
    simp only [puris] at H
    cases h1 : puri ob v with
    | none => simp [h1, puriC] at H
    | some a =>
      cases h2 : puris ob r with
      | none => simp [h1, h2, puriC] at H
      | some b =>
        simp only [h1, h2, puriC, Option.some.injEq, Prod.mk.injEq] at H
        obtain ⟨e1, e2, e3⟩ := H; subst e1; subst e2; subst e3
        simp only [RCells] at hr
        obtain ⟨f1, f2, f3⟩ := puri_ok S (v' := a.1) (g := a.2.1) (u := a.2.2) h1 hr.1.2
        obtain ⟨k1, k2, k3⟩ := puris_ok S (l' := b.1) (g := b.2.1) (u := b.2.2) h2 hr.2
        refine ⟨f1.app k1, by simp only [wds, f2, k2], fun u' hu' => ?_⟩
        have m1 : ∀ c, (γ.frz u').q a.2.1 c → (γ.frz u').q (a.2.1 && b.2.1) c ∧ w.heap[c]? = w.heap[c]? := fun c h => ⟨⟨h.1, fun e => h.2 (by simp at e; exact e.1)⟩, rfl⟩
        have m2 : ∀ c, (γ.frz u').q b.2.1 c → (γ.frz u').q (a.2.1 && b.2.1) c ∧ w.heap[c]? = w.heap[c]? := fun c h => ⟨⟨h.1, fun e => h.2 (by simp at e; exact e.2)⟩, rfl⟩
        simp only [PCells]
        refine ⟨PAt_mono m1 _ _ _ (f3 u' fun o x h => hu' o x (getO_app_some h)), ?_⟩
        rw [f2]
        refine PCells_mono m2 _ _ _ (k3 u' fun o x h => ?_)
        cases hn : getO a.2.2 o with
        | some y => exact hu' o y (getO_app_some hn)
        | none => exact hu' o x (by rw [getO_app_none hn]; exact h)
end
section
variable {P : Program} {E : Env} {C : Ctx} {γ : Gh} {w : World} {a : Act} {sl : SL} {ob : OB}
theorem PEls_set {h : Array Obj} {q : Nat → Prop} {cs cs' : Array Value} {w' i : Nat} {els : List (List PV)} {el el' : List PV} (H : PEls h q cs w' 0 els) (_hi : els[i]? = some el) (hw : wds el' = w')
    (hel : PCells h q cs' (i * w') el') (hsame : ∀ k v, k < i * w' ∨ i * w' + w' ≤ k → cs[k]? = some v → cs'[k]? = some v) : PEls h q cs' w' 0 (els.set i el') :=
  PEls_of fun j x hx => by
    rw [List.getElem?_set] at hx
    split at hx
    · rename_i e
      subst e
      split at hx
      · injection hx with hx; subst hx; exact ⟨hw, by rw [Nat.zero_add]; exact hel⟩
      · cases hx
    · rename_i e
      have := PEls_get H j x hx
      refine ⟨this.1, PCells_at (fun k v hk hv => ?_) this.2⟩
      rw [this.1] at hk
      refine hsame _ v ?_ hv
      rcases Nat.lt_or_gt_of_ne e with hlt | hgt
      · right
        have := Nat.mul_le_mul_right w' (show i + 1 ≤ j by omega)
        rw [Nat.succ_mul] at this; omega
      · left
        have := Nat.mul_le_mul_right w' (show j + 1 ≤ i by omega)
        rw [Nat.succ_mul] at this; omega
theorem REls_set {fid : Nat → Nat} {γ : Gh} {h : Array Obj} {cs cs' : Array Value} {w' i : Nat} {els : List (List PV)} {el el' : List PV} (H : REls fid γ h cs w' 0 els) (_hi : els[i]? = some el) (hw : wds el' = w')
    (hel : RCells fid γ h cs' (i * w') el') (hsame : ∀ k v, k < i * w' ∨ i * w' + w' ≤ k → cs[k]? = some v → cs'[k]? = some v) : REls fid γ h cs' w' 0 (els.set i el') :=
  REls_of fun j x hx => by
    rw [List.getElem?_set] at hx
    split at hx
    · rename_i e
      subst e
      split at hx
      · injection hx with hx; subst hx; exact ⟨hw, by rw [Nat.zero_add]; exact hel⟩
      · cases hx
    · rename_i e
      have := REls_get H j x hx
      refine ⟨this.1, RCells_at (fun k v hk hv => ?_) this.2⟩
      rw [this.1] at hk
      refine hsame _ v ?_ hv
      rcases Nat.lt_or_gt_of_ne e with hlt | hgt
      · right
        have := Nat.mul_le_mul_right w' (show i + 1 ≤ j by omega)
        rw [Nat.succ_mul] at this; omega
      · left
        have := Nat.mul_le_mul_right w' (show j + 1 ≤ i by omega)
        rw [Nat.succ_mul] at this; omega
theorem putW_P {h : Array Obj} {q : Nat → Prop} {cs cs' ns : Array Value} {base off : Nat} {z new out : List PV} (H : putW z off new = some out) (hz : PCells h q cs base z) (hn : PCells h q ns 0 new)
    (hsame : ∀ i v, i < off ∨ off + wds new ≤ i → cs[base + i]? = some v → cs'[base + i]? = some v) (hnew : ∀ i v, i < wds new → ns[i]? = some v → cs'[base + off + i]? = some v) :
    PCells h q cs' base out ∧ wds out = wds z := by
  unfold putW at H
  split at H
  · rename_i a c ha hc
    injection H with H; subst H
    obtain ⟨a', e1, hw1⟩ := takeW_pre ha
    obtain ⟨c', e2, hw2⟩ := dropW_suf hc
    have hz1 := hz; rw [e1, PCells_app] at hz1
    have hz2 := hz; rw [e2, PCells_app] at hz2
    refine ⟨?_, ?_⟩
    · rw [PCells_app, PCells_app]
      refine ⟨PCells_at (fun i v hi hv => hsame i v (.inl (by omega)) hv) hz1.1, ?_, ?_⟩
      · refine PCells_at (fun i v hi hv => ?_) hn
        rw [hw1]; rw [Nat.zero_add] at hv; exact hnew i v hi hv
      · rw [hw1]
        rw [hw2] at hz2
        refine PCells_at (fun i v hi hv => ?_) hz2.2
        have := hsame (off + wds new + i) v (.inr (by omega)) (by rw [show base + (off + wds new + i) = base + (off + wds new) + i by omega]; exact hv)
        rw [show base + off + wds new + i = base + (off + wds new + i) by omega]; exact this
    · have h1 := congrArg wds e2
      rw [wds_app, hw2] at h1
      rw [wds_app, wds_app, hw1]; omega
  · cases H
end
end
section
open Go
section
variable {P : Program} {C : Ctx} {γ : Gh} {w : World} {tmps : Array Value} {sl : SL} {ob : OB}
theorem mkm_ok (S : St C γ w tmps sl ob) {t : TypeId} {d : Nat} {k : IntKind} {r : Up} (H : mkm ob d k = some r) :
    ∃ (x : Value) (w' : World) (γ' : Gh), (Instr.makeMap t none).run P w = .ok x w' ∧ RV C.fid γ' w'.heap x r.1 ∧ St C γ' w' tmps sl (r.2 ++ ob) := by
  unfold mkm at H
  cases hd : getO ob d with
  | some y => simp [hd, newX] at H
  | none =>
    simp only [hd, newX, Option.some.injEq] at H
    subst H
    have hold : ∀ i, i < w.heap.size → (w.alloc (.map #[] 0)).heap[i]? = w.heap[i]? := fun i h => (MapKept.heap_alloc w _).2 i h
    have := S.newM (x := mapO k) (i := ⟨0, some w.heap.size, 0, 0⟩) (w' := w.alloc (.map #[] 0)) (cells := #[]) hd
      (by unfold ownM; simp only [mapO, mpo, Bool.false_eq_true, if_false]; exact ⟨by simp, #[], 0, (MapKept.heap_alloc w _).1, trivial⟩) hold (Chg.alloc _ w _) rfl rfl (fun c h => by simp [mapO] at h) (by simp [mapO]) rfl (by simp) (.inr ⟨rfl, by simp only [mapO, REls]⟩)
    refine ⟨_, _, _, rfl, RV_m.2 ⟨⟨0, some w.heap.size, 0, 0⟩, by simp [Gh.set], _, rfl, fun _ => ⟨w.heap.size, rfl, rfl⟩⟩, this.2⟩
theorem St.putM (S : St C γ w tmps sl ob) {o : Nat} {X : Obj'} {k : IntKind} {l l' : List (Int × PV)} {x : Value} (hX : getO ob o = some X) (hm : mpo X = some (k, l)) (hv : X.ver = 0) (hf : X.fro = false) (hx : RV C.fid γ w.heap x (.m o)) {b : Nat} (hxb : x = .map (some b))
    {es' : Array MapEntry} {clock' : Nat} (hE : EntR C.fid k es'.toList l') : St C γ { w with heap := w.heap.setIfInBounds b (.map es' clock') } tmps sl ([(o, { X with mp := some (k, l') })] ++ ob) := by
  obtain ⟨i, b', es, clock, hi, hb, e, hh, _, h1, h2, h3, h4, h5⟩ := map_at S hX hm hv hx
  rw [hxb] at e
  injection e with e
  injection e with e
  subst e
  have hlt : b < w.heap.size := (Array.getElem?_eq_some_iff.1 hh).1
  refine S.updM (x' := { X with mp := some (k, l') }) (cs := #[]) hX hf hi hb ⟨rfl, rfl, rfl, by simp, fun j hj => by simp [Ne.symm hj]⟩ ?_ (by simpa using h3) rfl rfl rfl rfl (.inr ⟨h2, ?_⟩)
  · unfold ownM
    simp only [mpo, h2, Bool.false_eq_true, if_false]
    exact ⟨⟨h1, trivial, trivial⟩, es', clock', by simp [hlt], hE⟩
  · simp only [h1, REls]
theorem mpu_ok (S : St C γ w tmps sl ob) {t kt et : TypeId} {k : IntKind} {x kx vx : Value} {xv kv vv : PV} {r : Up} (hm : P.underlying t = some (.map kt et)) (hk : P.underlying kt = some (.int k))
    (hx : RV C.fid γ w.heap x xv) (hkx : RV C.fid γ w.heap kx kv) (hvx : RV C.fid γ w.heap vx vv) (H : mpu ob k xv kv vv = some r) :
    ∃ (w' : World) (γ' : Gh), (Instr.mapUpdate t x kx vx).run P w = .ok () w' ∧ r.1 = .tup [] ∧ St C γ' w' tmps sl (r.2 ++ ob) := by
  unfold mpu at H
  split at H
  · rename_i o k' n
    split at H
    · rename_i hc
      obtain ⟨rfl, hval⟩ := hc
      rw [RV_i] at hkx
      subst hkx
      have hvr := RV_valR hval hvx
      cases hX : getO ob o with
      | none => simp [hX, mpuX] at H
      | some X =>
        simp only [hX, mpuX] at H
        split at H
        · rename_i k2 l hmp
          split at H
          · rename_i hc
            obtain ⟨rfl, hfro, hv⟩ := hc
            injection H with H
            subst H
            obtain ⟨i, b, es, clock, _, _, hxb, hb, hE, _⟩ := map_at S hX hmp hv hx
            have hkey : MapKept.IsKey (.int k2) (.int k2 n) := rfl
            rcases find_R n es.toList l 0 hE with ⟨h1, _, h3⟩ | ⟨j, e, h1, h2, h3, _, h4⟩
            · refine ⟨_, γ, ?_, rfl, S.putM (l' := mset n vv l) hX hmp hv hfro hx hxb (es' := es.push { key := .int k2 n, val := vx, born := clock }) (clock' := clock + 1) ?_⟩
              · rw [hxb]
                simp [Instr.mapUpdate, run_underlying hm, MapKept.run_getObj_map hb, MapKept.run_checkKey hk hkey, MapKept.run_findKey hk h1, MapKept.run_setObj_map _ hb, Result.andThen]
              · rw [Array.toList_push]
                exact h3 _ _ rfl hvr
            · have hj : es[j]? = some e := by simpa using h2
              refine ⟨_, γ, ?_, rfl, S.putM (l' := mset n vv l) hX hmp hv hfro hx hxb (es' := es.modify j fun e => { e with key := .int k2 n, val := vx }) (clock' := clock) ?_⟩
              · rw [hxb]
                simp [Instr.mapUpdate, run_underlying hm, MapKept.run_getObj_map hb, MapKept.run_checkKey hk hkey, MapKept.run_findKey hk h1, hj, h3, MapKept.run_keyThatStays hkey, MapKept.run_setObj_map _ hb, Result.andThen]
              · rw [Array.toList_modify]
                exact h4 _ _ rfl hvr
          · cases H
        · cases H
    · cases H
  · cases H
theorem mpc_ok (S : St C γ w tmps sl ob) {t kt et ty : TypeId} {at' : Array TypeId} {x : Value} {xv : PV} {r : Up} (e0 : at'[0]? = some t) (hm : P.underlying t = some (.map kt et)) (hx : RV C.fid γ w.heap x xv) (H : mpc ob xv = some r) :
    ∃ (v : Value) (w' : World) (γ' : Gh), (Builtin.clear_ at' ty #[x]).run P w = .ok v w' ∧ RV C.fid γ' w'.heap v r.1 ∧ St C γ' w' tmps sl (r.2 ++ ob) := by
  unfold mpc at H
  split at H
  · rename_i o
    cases hX : getO ob o with
    | none => simp [hX, mpcX] at H
    | some X =>
      simp only [hX, mpcX] at H
      split at H
      · rename_i k2 l hmp
        split at H
        · rename_i hc
          obtain ⟨hfro, hv⟩ := hc
          injection H with H
          subst H
          obtain ⟨i, b, es, clock, _, _, hxb, hb, hE, _⟩ := map_at S hX hmp hv hx
          refine ⟨.tuple #[], _, γ, ?_, RV_tup.2 ⟨#[], rfl, rfl, by simp only [RL]⟩, S.putM (l' := []) hX hmp hv hfro hx hxb (es' := #[]) (clock' := clock) trivial⟩
          rw [hxb]
          simp [Builtin.clear_, e0, run_underlying hm, MapKept.run_getObj_map hb, MapKept.run_setObj_map _ hb, Result.andThen]
        · cases H
      · cases H
  · cases H
end
end
end Go.Proofs.Ytnkapponcbgbhaa
