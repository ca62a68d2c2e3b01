/-
  Operations that make memory.
-/
import Derived.Test.YtcimkkcajkmfoaaDoorOpsT
import Derived.Laws.BitsLemmas
set_option linter.all false
namespace Go.Proofs.YtcimkkcajkmfoaaDoor
open Go

def Gh.set (γ : Gh) (d : Nat) (i : HI) : Gh := { γ with mu := fun o => if o = d then some i else γ.mu o }
theorem heap_new (w : World) (o : Obj) : (w.alloc o).heap[w.heap.size]? = some o := by
  show (w.heap.push o)[w.heap.size]? = some o
  simp
theorem heap_old (w : World) (o : Obj) (i : Nat) (h : i < w.heap.size) : (w.alloc o).heap[i]? = w.heap[i]? := by
  show (w.heap.push o)[i]? = w.heap[i]?
  rw [Array.getElem?_push, if_neg (Nat.ne_of_lt h)]
theorem Chg.alloc (A : Nat → Prop) (w : World) (o : Obj) : Chg A w (w.alloc o) :=
  ⟨rfl, rfl, rfl, by simp, fun k hk _ => heap_old w o k hk⟩
theorem Chg.drew (A : Nat → Prop) (w : World) : Chg A w w.drew := ⟨rfl, rfl, rfl, Nat.le_refl _, fun _ _ _ => rfl⟩
theorem Chg.frz (A : Nat → Prop) (w : World) (a : Addr) (n : Nat) (h : A a.block) : Chg A w (w.freeze a n) := by
  unfold World.freeze
  split
  · exact Chg.refl A w
  · refine ⟨rfl, rfl, rfl, by simp, fun k _ hk => ?_⟩
    have : a.block ≠ k := fun e => hk (e ▸ h)
    simp [Array.getElem?_modify, this]

section
variable {C : Ctx} {γ : Gh} {w : World} {tmps : Array Value} {sl : SL} {ob : OB}
theorem blk_lt (S : St C γ w tmps sl ob) {o b : Nat} {i : HI} (hi : γ.mu o = some i) (hb : i.blk = some b) : b < w.heap.size := by
  obtain ⟨x, hx⟩ := S.dom o i hi
  obtain ⟨i', hi', _, _, _, h4⟩ := S.obj o x hx
  rw [hi] at hi'; injection hi' with hi'; subst hi'
  simp only [hb] at h4
  obtain ⟨_, cs, ⟨t, fr, h, _⟩, _⟩ := h4
  exact (Array.getElem?_eq_some_iff.1 h).1
theorem mu_none (S : St C γ w tmps sl ob) {d : Nat} (hd : getO ob d = none) : γ.mu d = none := by
  cases h : γ.mu d with
  | none => rfl
  | some i => obtain ⟨x, hx⟩ := S.dom d i h; rw [hd] at hx; cases hx
theorem drew_ok (S : St C γ w tmps sl ob) : St C γ w.drew tmps sl ob :=
  ⟨S.slot, S.obj, S.dom, S.inj, S.unf, S.own, S.lt, S.glob, S.chg.trans (Chg.drew _ w), S.gn, S.gnew, S.kept, S.imk, S.imn, S.place, S.fresh⟩
/-- A new object in a new block; the world behind it is w', where the block holds 'cells'. -/
theorem St.new (S : St C γ w tmps sl ob) {d : Nat} (hd : getO ob d = none) {w' : World} {cells : Array Value} (hown : ownAt w'.heap w.heap.size cells) (hold : ∀ i, i < w.heap.size → w'.heap[i]? = w.heap[i]?)
    (hchg : Chg (fun b => C.A b ∨ C.w0.heap.size ≤ b) w w') {x : Obj'} {i : HI} (hv : x.ver = i.ver) (hb : i.blk = some w.heap.size) (hc : ∀ c, x.cap = some c → i.tot = c)
    (hl : x.els.length ≤ i.tot) (hw : x.w = i.w) (hs : i.tot * i.w ≤ cells.size)
    (hels : (x.pu = true ∧ PEls w.heap (γ.q x.g) cells i.w 0 x.els) ∨ (x.pu = false ∧ REls C.fid γ w.heap cells i.w 0 x.els)) :
    (∀ S', Mv γ (γ.set d i) w.heap w'.heap S' (fun o => o)) ∧ St C (γ.set d i) w' tmps sl ([(d, x)] ++ ob) := by
  have hmu := mu_none S hd
  have hq : ∀ g b, γ.q g b → (γ.set d i).q g b ∧ w'.heap[b]? = w.heap[b]? := fun g b h => ⟨h, hold b (S.lt b h.1)⟩
  have hset : ∀ o, o ≠ d → (γ.set d i).mu o = γ.mu o := fun o ho => by simp [Gh.set, ho]
  have hver : ∀ o j, γ.mu o = some j → ∃ i', (γ.set d i).mu o = some i' ∧ (i' = j ∨ j.ver < i'.ver) := fun o j hj => by
    have : o ≠ d := fun e => by subst e; rw [hmu] at hj; cases hj
    exact ⟨j, by rw [hset o this]; exact hj, .inl rfl⟩
  have M : ∀ S', Mv γ (γ.set d i) w.heap w'.heap S' (fun o => o) := fun S' => ⟨fun o _ j hj => hver o j hj, hq⟩
  refine ⟨M, (S.change (γ' := γ.set d i) (u := [(d, x)]) ?_ hver ?_ rfl ?_ ?_ ?_ (fun b h => .inl h) hchg).2.2⟩
  · intro o ho
    simp only [getO] at ho
    split at ho
    · cases ho
    · rename_i h; exact hset o (Ne.symm h)
  · exact fun b h => ⟨h, hold b (S.lt b h)⟩
  · intro o j b _ hj hb'
    exact ⟨hold b (blk_lt S hj hb'), id⟩
  · intro o y hy
    simp only [getO] at hy
    split at hy
    · rename_i h
      subst h
      injection hy with hy; subst hy
      refine ⟨i, by simp [Gh.set], ⟨hv, hc, hl, ?_⟩, ?_⟩
      · simp only [hb]
        refine ⟨hw, cells, hown, hs, hels.imp (fun ⟨a, b⟩ => ⟨a, PEls_mono (hq _) _ _ _ _ b⟩) (fun ⟨a, b⟩ => ⟨a, REls_mono (M _) b⟩)⟩
      · intro b hb'
        rw [hb] at hb'; injection hb' with hb'; subst hb'
        refine ⟨.inr S.chg.size, fun _ h => absurd (S.lt _ h) (by omega), fun o' i' h1 h2 => ?_, .inr (S.fresh _ S.chg.size)⟩
        by_cases ho : o' = d
        · exact ho
        · rw [hset o' ho] at h1
          exact absurd (blk_lt S h1 h2) (by omega)
    · cases hy
  · intro b h
    have := S.lt b h; have := hchg.size; omega
theorem run_newRow' {P : Program} (t : TypeId) (cells : Array Value) (w : World) : (newRow t cells).run P w = .ok ⟨w.heap.size, 0, none⟩ (w.alloc (.cells cells t)) := by
  simp [newRow]
theorem own_new (w : World) (cells : Array Value) (t : TypeId) : ownAt (w.alloc (.cells cells t)).heap w.heap.size cells :=
  ⟨t, (0, 0), heap_new w _, .inl rfl⟩
end

/-- What an operation comes to: the value, the world, and the state with what was updated. -/
def OK (P : Program) (C : Ctx) (ρ : Operand → Value) (w : World) (tmps : Array Value) (sl : SL) (ob : OB) (o : Oper) (r : Up) : Prop :=
  ∃ (nx : Next) (x : Value) (w' : World) (γ' : Gh), (execOp ρ o).run P w = .ok nx w' ∧ (nx = .value x ∨ (nx = .skip ∧ x = undef)) ∧ RV C.fid γ' w'.heap x r.1 ∧ St C γ' w' tmps sl (r.2 ++ ob)

section
variable {P : Program} {E : Env} {C : Ctx} {γ : Gh} {w : World} {a : Act} {sl : SL} {ob : OB}
theorem newX_ok {d : Nat} {x : Obj'} {v : PV} {r : Up} (H : newX d x v (getO ob d) = some r) : getO ob d = none ∧ r = (v, [(d, x)]) := by
  cases h : getO ob d with
  | some y => simp [h, newX] at H
  | none => simp only [h, newX, Option.some.injEq] at H; exact ⟨rfl, H.symm⟩
theorem al_ok (S : St C γ w a.tmps sl ob) {d : Nat} {z : List PV} {r : Up} {cells : Array Value} {t : TypeId} (hz : RCells C.fid γ w.heap cells 0 z) (hs : cells.size = wds z) (H : al ob d z = some r) :
    ∃ γ', RV C.fid γ' (w.alloc (.cells cells t)).heap (.pointer (some ⟨w.heap.size, 0, none⟩)) r.1 ∧ St C γ' (w.alloc (.cells cells t)) a.tmps sl (r.2 ++ ob) := by
  obtain ⟨hd, rfl⟩ := newX_ok H
  have := S.new hd (own_new w cells t) (heap_old w _) (Chg.alloc _ w _) (x := boxO z) (i := ⟨0, some w.heap.size, wds z, 1⟩) rfl rfl (fun c h => by simp [boxO] at h) (by simp [boxO]) rfl (by simp; omega)
    (.inr ⟨rfl, by simp only [boxO, REls, and_true]; exact ⟨trivial, hz⟩⟩)
  exact ⟨_, RV_p.2 ⟨_, by simp [Gh.set]; rfl, Nat.le_refl _, _, rfl, fun _ => ⟨w.heap.size, rfl, by simp⟩⟩, this.2⟩
theorem wd_zp (v : PV) : wd (zp v) = wd v := by cases v <;> rfl
theorem wds_zps : ∀ z, wds (zps z) = wds z
  | [] => rfl
  | v :: r => by simp only [zps, wds, wd_zp, wds_zps r]
theorem isPures_get : ∀ {l : List PV}, isPures l = true → ∀ v ∈ l, isPure v = true
  | [], _, _, h => by cases h
  | x :: r, H, v, hv => by
    simp only [isPures, Bool.and_eq_true] at H
    rcases List.mem_cons.1 hv with rfl | hv
    · exact H.1
    · exact isPures_get H.2 v hv
theorem cellsB_P {h : Array Obj} {q : Nat → Prop} : ∀ (z : List PV) (l : List Value) (arr : Array Value) (off : Nat), cellsB l z = true → isPures (zps z) = true → (∀ (i : Nat) v, l[i]? = some v → arr[off + i]? = some v) → PCells h q arr off (zps z)
  | [], _, _, _, _, _, _ => by simp only [zps, PCells]
  | p :: r, l, arr, off, H, hp, ha => by
    simp only [zps, PCells]
    simp only [zps, isPures, Bool.and_eq_true] at hp
    unfold cellsB at H
    split at H
    · simp_all
    · rename_i n xs r' e
      injection e with e1 e2; subst e1; subst e2
      simp only [Bool.and_eq_true, beq_iff_eq] at H
      obtain ⟨⟨⟨h1, h2⟩, h3⟩, h4⟩ := H
      refine ⟨by simp only [zp, PAt]; exact ⟨h1, cellsB_blob h2 h1 h3 ha⟩, cellsB_P _ _ _ _ h4 hp.2 fun i v hi => ?_⟩
      rw [wd_zp]; simp only [wd]
      rw [List.getElem?_drop] at hi
      rw [Nat.add_assoc]; exact ha _ _ hi
    · rename_i v c x r' hn e
      injection e with e1 e2; subst e1; subst e2
      simp only [Bool.and_eq_true] at H
      have h0 : arr[off]? = some v := by simpa using ha 0 v rfl
      have hw1 : wd p = 1 := (cellB_ok (fid := id) (γ := ⟨fun _ => none, fun _ => False, fun _ => False⟩) (h := #[]) H.1).2
      refine ⟨?_, cellsB_P _ _ _ _ H.2 hp.2 fun i u hi => ?_⟩
      · have hc := H.1
        have hp1 := hp.1
        unfold cellB at hc
        split at hc
        · simp at hc; subst hc; simpa only [zp, PAt] using h0
        · simp at hc; obtain ⟨rfl, rfl⟩ := hc; simpa only [zp, PAt] using h0
        · simp at hc; simp only [zp, PAt]; exact ⟨_, h0, hc⟩
        · simp only [zp, PAt]; exact ⟨none, 0, h0, Nat.zero_le _, .inl trivial⟩
        · simp [zp, isPure] at hp1
        · simp [zp, isPure] at hp1
        · cases hc
      · rw [wd_zp, hw1, Nat.add_assoc, Nat.add_comm 1 i]
        exact ha (i + 1) u (by simpa using hi)
    · cases H
/-- A row of zeros. -/
theorem zeros_ok {h : Array Obj} {q : Nat → Prop} {z : List PV} {zc arr : Array Value} {n off : Nat} (hz : PCells h q zc 0 (zps z)) (ha : ∀ j, j < n * wds z → arr[off + j]? = zc[j % wds z]?) :
    PEls h q arr (wds z) off (List.replicate n (zps z)) :=
  PEls_of fun i x hx => by
    have hi : i < n := by have := (List.getElem?_eq_some_iff.1 hx).1; simpa using this
    rw [List.getElem?_replicate, if_pos hi] at hx
    injection hx with hx; subst hx
    refine ⟨wds_zps z, PCells_at (fun j y hj hy => ?_) hz⟩
    rw [wds_zps] at hj
    have hm : i * wds z + j < n * wds z := by
      have := Nat.mul_le_mul_right (wds z) (show i + 1 ≤ n by omega)
      rw [Nat.succ_mul] at this; omega
    have := ha (i * wds z + j) hm
    rw [Nat.mul_comm i, Nat.mul_add_mod, Nat.mod_eq_of_lt hj, ← Nat.add_assoc, Nat.mul_comm _ i] at this
    rw [this]; rw [Nat.zero_add] at hy; exact hy
theorem range_map_get {n : Nat} {zc : Array Value} (hp : 0 < n → 0 < zc.size) (j : Nat) (hj : j < n) : ((Array.range n).map (zc[· % zc.size]!))[j]? = zc[j % zc.size]? := by
  have hlt : j % zc.size < zc.size := Nat.mod_lt _ (hp (by omega))
  simp [hj, getElem!_pos, hlt]
theorem wrap_small {n : Int} (h0 : 0 ≤ n) (h1 : n ≤ 4294967296) : IntKind.i64.wrap n = n := by
  rw [IntKind.wrap_i64]; omega
theorem mks_ok (S : St C γ w a.tmps sl ob) {d : Nat} {t e : TypeId} {z : List PV} {xv : PV} {x : Value} {r : Up} (hu : P.underlying t = some (.slice e)) (hz : zeroT P e = some z) (hx : RV C.fid γ w.heap x xv) (H : mks ob d z xv = some r) :
    ∃ (y : Value) (w' : World) (γ' : Gh), (Instr.makeSlice t x x).run P w = .ok y w' ∧ RV C.fid γ' w'.heap y r.1 ∧ St C γ' w' a.tmps sl (r.2 ++ ob) := by
  unfold mks at H
  split at H
  · rename_i k n
    split at H
    · rename_i hc
      obtain ⟨h0, hn, hpu⟩ := hc
      rw [RV_i] at hx; subst hx
      obtain ⟨hd, rfl⟩ := newX_ok H
      obtain ⟨i, zv, hi, hzv, hs1, hs2, hb, hcB, hR⟩ := zeroT_R (fid := C.fid) (γ := γ) (h := w.heap) hz
      simp only [two32] at hn
      have hwr : IntKind.i64.wrap n = n := wrap_small h0 hn
      have hbig : ¬ ((i.bytes : Int) * n > 2 ^ 48) := by
        have h1 : (i.bytes : Int) * n ≤ 4096 * n := Int.mul_le_mul_of_nonneg_right (by omega) h0
        omega
      obtain ⟨m, rfl⟩ : ∃ m : Nat, n = m := ⟨n.toNat, by omega⟩
      have hpz := cellsB_P (h := w.heap) (q := γ.q true) z zv.cells.toList zv.cells 0 hcB hpu (fun j v hj => by rw [Nat.zero_add]; simpa using hj)
      let cells : Array Value := (Array.range (m * wds z)).map ((if m * wds z = 0 then #[] else zv.cells)[· % (if m * wds z = 0 then #[] else zv.cells).size]!)
      have hcs : cells.size = m * wds z := by simp [cells]
      have hget : ∀ j, j < m * wds z → cells[0 + j]? = zv.cells[j % wds z]? := by
        intro j hj
        have hne : ¬ (m * wds z = 0) := by omega
        simp only [cells, if_neg hne, Nat.zero_add]
        have h1 : 0 < wds z := Nat.pos_of_ne_zero (fun e => by rw [e] at hj; simp at hj)
        rw [range_map_get (fun _ => by rw [hs1]; exact h1) j hj, hs1]
      have hE := zeros_ok (n := m) hpz hget
      have hrun : (Instr.makeSlice t (.int k m) (.int k m)).run P w = .ok (.slice (some ⟨w.heap.size, 0, none⟩) m m) (w.alloc (.cells cells e)) := by
        have hsz : (sizeOf e).run P w = .ok (wds z) w := by simp [sizeOf, typeInfo, hi, hs2]
        unfold Instr.makeSlice
        simp only [Sem.run_bind, run_underlying' hu, Result.andThen_ok, asInt, asIntOf, Sem.run_pure, typeInfo, run_program, hi, hwr]
        rw [if_neg (by
          simp only [Bool.or_eq_true, decide_eq_true_eq, not_or]
          exact ⟨⟨⟨by omega, hbig⟩, by omega⟩, by omega⟩)]
        simp only [Sem.run_bind, run_askRoom, Result.andThen_ok, hsz, Int.toNat_natCast, cells]
        by_cases hm0 : m * wds z = 0
        · simp [hm0, run_newRow']
        · simp [hm0, run_newRow', run_zeroValue' hi hzv]
      have := S.new hd (own_new w cells e) (heap_old w _) (Chg.alloc _ w _) (x := { els := List.replicate m (zps z), w := wds z, pu := true, g := true, cap := some m, ver := 0, fro := false }) (i := ⟨0, some w.heap.size, wds z, m⟩) rfl rfl
        (fun c h => by injection h) (by simp) rfl (by simp only; omega) (.inl ⟨rfl, hE⟩)
      refine ⟨_, _, _, hrun, RV_sl.2 ⟨_, by simp [Gh.set]; rfl, Nat.le_refl _, _, _, rfl, fun _ => ⟨by simp, Nat.le_refl _, fun _ => ⟨w.heap.size, rfl, by simp⟩⟩⟩, this.2⟩
    · cases H
  · cases H
theorem bx_ok (S : St C γ w a.tmps sl ob) {d : Nat} {v : PV} {x : Value} {r : Up} {t : TypeId} (hx : RV C.fid γ w.heap x v) (H : bx ob d v = some r) :
    ∃ γ', (Instr.box t x).run P w = .ok (.pointer (some ⟨w.heap.size, 0, none⟩)) (w.alloc (.cells x.cells t)) ∧ RV C.fid γ' (w.alloc (.cells x.cells t)).heap (.pointer (some ⟨w.heap.size, 0, none⟩)) r.1 ∧ St C γ' (w.alloc (.cells x.cells t)) a.tmps sl (r.2 ++ ob) := by
  unfold bx at H
  split at H
  · rename_i hs
    obtain ⟨h1, h2⟩ := cells_ok hx hs
    obtain ⟨γ', g1, g2⟩ := al_ok (t := t) S h2 h1 H
    exact ⟨γ', by simp [Instr.box, newVar, run_newRow'], g1, g2⟩
  · cases H
theorem alloc_ok (S : St C γ w a.tmps sl ob) {d : Nat} {z : List PV} {r : Up} {t : TypeId} (hz : zeroT P t = some z) (H : al ob d z = some r) :
    ∃ (y : Value) (w' : World) (γ' : Gh), (Instr.alloc t true (.tuple #[])).run P w = .ok y w' ∧ RV C.fid γ' w'.heap y r.1 ∧ St C γ' w' a.tmps sl (r.2 ++ ob) := by
  obtain ⟨i, zv, hi, hzv, hs1, hs2, hb, hcB, hR⟩ := zeroT_R (fid := C.fid) (γ := γ) (h := w.heap) hz
  obtain ⟨γ', g1, g2⟩ := al_ok (t := t) S hR hs1 H
  exact ⟨_, _, γ', by simp [Instr.alloc, run_zeroValue' hi hzv, newVar, run_newRow'], g1, g2⟩
end
end Go.Proofs.YtcimkkcajkmfoaaDoor
