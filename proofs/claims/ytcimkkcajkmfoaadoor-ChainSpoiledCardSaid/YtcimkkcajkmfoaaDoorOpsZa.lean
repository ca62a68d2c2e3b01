/-
  append.
-/
import Derived.Test.YtcimkkcajkmfoaaDoorOpsZ
set_option linter.all false
namespace Go.Proofs.YtcimkkcajkmfoaaDoor
open Go

theorem Gh.set_mu (γ : Gh) (d : Nat) (i : HI) : (γ.set d i).mu d = some i := by simp [Gh.set]
section
variable {P : Program} {C : Ctx} {γ : Gh} {w : World} {a : Act} {sl : SL} {ob : OB}
/-- A new object without a block. -/
theorem St.new0 (S : St C γ w a.tmps sl ob) {d : Nat} (hd : getO ob d = none) {x : Obj'} (hv : x.ver = 0) (hl : x.els = []) (hc : x.cap = none ∨ x.cap = some 0) (w' : Nat) :
    (∀ S', Mv γ (γ.set d ⟨0, none, w', 0⟩) w.heap w.heap S' (fun o => o)) ∧ St C (γ.set d ⟨0, none, w', 0⟩) w a.tmps sl ([(d, x)] ++ ob) := by
  have hmu := mu_none S hd
  have hset : ∀ o, o ≠ d → (γ.set d ⟨0, none, w', 0⟩).mu o = γ.mu o := fun o ho => by simp [Gh.set, ho]
  have hver : ∀ o j, γ.mu o = some j → ∃ i', (γ.set d ⟨0, none, w', 0⟩).mu o = some i' ∧ (i' = j ∨ j.ver < i'.ver) := fun o j hj => by
    have : o ≠ d := fun e => by subst e; rw [hmu] at hj; cases hj
    exact ⟨j, by rw [hset o this]; exact hj, .inl rfl⟩
  refine ⟨fun S' => ⟨fun o _ j hj => hver o j hj, fun g b h => ⟨h, rfl⟩⟩, (S.change (γ' := γ.set d ⟨0, none, w', 0⟩) (u := [(d, x)]) ?_ hver (fun b h => ⟨h, rfl⟩) rfl (fun o i b _ _ _ => ⟨rfl, id⟩) ?_ S.lt (fun b h => .inl h) (Chg.refl _ _)).2.2⟩
  · intro o ho
    simp only [getO] at ho
    split at ho
    · cases ho
    · rename_i h; exact hset o (Ne.symm h)
  · intro o y hy
    simp only [getO] at hy
    split at hy
    · rename_i h
      subst h
      injection hy with hy; subst hy
      refine ⟨_, Gh.set_mu .., ⟨hv, fun c h => ?_, by rw [hl]; simp, rfl⟩, fun b hb => by cases hb⟩
      rcases hc with hc | hc <;> rw [hc] at h <;> simp at h
      exact h
    · cases hy
theorem allW_of {h : Array Obj} {q : Nat → Prop} {cs : Array Value} {w' : Nat} : ∀ {l : List (List PV)} {off : Nat}, PEls h q cs w' off l → allW w' l = true
  | [], _, _ => rfl
  | x :: r, off, H => by
    simp only [PEls] at H
    simp only [allW, Bool.and_eq_true, beq_iff_eq]
    exact ⟨H.1, allW_of H.2.2⟩
theorem mem_one {new : Array Value} {ys : List (List PV)} {w' : Nat} {h : Array Obj} {q : Nat → Prop} (hs : new.size = ys.length * w') (H : PEls h q new w' 0 ys) : ∀ v ∈ new.toList, v.oneCell' = true := by
  intro v hv
  obtain ⟨i, hi, e⟩ := List.getElem_of_mem hv
  rw [Array.length_toList] at hi
  rw [Array.getElem_toList] at e
  have hw : 0 < w' := Nat.pos_of_ne_zero (fun e => by rw [e, Nat.mul_zero] at hs; omega)
  have hj : i / w' < ys.length := by rw [Nat.div_lt_iff_lt_mul hw]; omega
  have h1 := PEls_get H (i / w') _ (List.getElem?_eq_getElem hj)
  obtain ⟨u, hu, h2⟩ := oneCell_of h1.2 (i % w') (by rw [h1.1]; exact Nat.mod_lt _ hw)
  rw [Nat.zero_add, Nat.mul_comm, Nat.div_add_mod, Array.getElem?_eq_getElem hi] at hu
  injection hu with hu
  rw [← e, hu]; exact h2

/-- What append makes of what it appends: m elements of plain data. -/
structure Apd (P : Program) (γ : Gh) (w : World) (at' : Array TypeId) (ty e : TypeId) (y : Value) (z : List PV) (zv : Value) (gy : Bool) (ys : List (List PV)) : Prop where
  sin : ∃ new : Array Value, new.size = ys.length * wds z ∧ PEls w.heap (γ.q gy) new (wds z) 0 ys ∧ ∀ base n c w', n + ys.length ≤ c → (∀ ad : Addr, base = some ad → (storeCells (ad.add (n * wds z)) new.toList).run P w = .ok () w') → (base = none → w' = w) →
    (Builtin.append_ at' ty #[.slice base n c, y]).run P w = .ok (.slice base (n + ys.length) c) w'
  sout : ∃ new : Array Value, new.size = ys.length * wds z ∧ PEls w.heap (γ.q gy) new (wds z) 0 ys ∧ ∀ base n c old, c < n + ys.length → n + ys.length ≤ 4294967296 → (Builtin.firstCells (wds z) n (.slice base n c)).run P w.drew = .ok old w.drew →
    ∃ cap, n + ys.length ≤ cap ∧ (Builtin.append_ at' ty #[.slice base n c, y]).run P w = .ok (.slice (some ⟨w.heap.size, 0, none⟩) (n + ys.length) cap) (w.drew.alloc (.cells (old ++ new ++ Builtin.zeroCells zv.cells (cap - (n + ys.length))) e))
theorem apd_src {at' : Array TypeId} {ty t e u : TypeId} {i : TypeInfo} {z : List PV} {zv : Value} {du : TypeDesc} {y : Value} {gy : Bool} {ys : List (List PV)} (h0 : at'[0]? = some t) (h1 : at'[1]? = some u) (ht : P.underlying t = some (.slice e)) (hu : P.underlying u = some du)
    (hi : P.info? e = some i) (hzv : i.zero = some zv) (hs2 : i.size = wds z) (hby : i.bytes ≤ 4096) (hz0 : 0 < wds z) (hni : ∀ k, du ≠ .int k) (hy : SrcR γ w.heap y gy ys) (hW : allW (wds z) ys = true) : Apd P γ w at' ty e y z zv gy ys := by
  constructor
  · obtain ⟨hl, hf⟩ := src_ok (P := P) (w := w) hz0 hy hW
    obtain ⟨new, hnew, hns, hnE⟩ := hf ys.length (Nat.le_refl _)
    rw [List.take_length] at hnE
    refine ⟨new, hns, hnE, fun base n c w' hle hst hnone => ?_⟩
    exact run_append_in h0 h1 ht hu hi hni hl hle (by rw [hs2]; exact hnew) (fun ad e => by rw [hs2]; exact hst ad e) hnone
  · obtain ⟨hl, _⟩ := src_ok (P := P) (w := w) hz0 hy hW
    obtain ⟨_, hf⟩ := src_ok (P := P) (w := w.drew) hz0 (show SrcR γ w.drew.heap y gy ys from hy) hW
    obtain ⟨new, hnew, hns, hnE⟩ := hf ys.length (Nat.le_refl _)
    rw [List.take_length] at hnE
    refine ⟨new, hns, hnE, fun base n c old hlt hle hold => ?_⟩
    exact run_append_out h0 h1 ht hu hi hzv hni hl hlt hby hle (by rw [hs2]; exact hold) (by rw [hs2]; exact hnew)
theorem zeroCells_get (zc : Array Value) (n j : Nat) (hj : j < n * zc.size) : (Builtin.zeroCells zc n)[j]? = zc[j % zc.size]? := by
  have hpos : 0 < zc.size := Nat.pos_of_ne_zero (fun e => by rw [e, Nat.mul_zero] at hj; omega)
  have hlt : j % zc.size < zc.size := Nat.mod_lt _ hpos
  simp [Builtin.zeroCells, hj, getElem!_pos, hlt]
theorem apd_int {at' : Array TypeId} {ty t e u : TypeId} {i : TypeInfo} {z : List PV} {zv : Value} {k k' : IntKind} {m : Nat} (h0 : at'[0]? = some t) (h1 : at'[1]? = some u) (ht : P.underlying t = some (.slice e)) (hu : P.underlying u = some (.int k))
    (hi : P.info? e = some i) (hzv : i.zero = some zv) (hs1 : zv.cells.size = wds z) (hs2 : i.size = wds z) (hby : i.bytes ≤ 4096) (hz0 : 0 < wds z) (hcB : cellsB zv.cells.toList z = true) (hm : m ≤ 4294967296) (hp : isPures (zps z) = true) : Apd P γ w at' ty e (.int k' m) z zv true (List.replicate m (zps z)) := by
  have hwr : IntKind.i64.wrap (m : Int) = m := wrap_small (by omega) (by omega)
  have hpz := cellsB_P (h := w.heap) (q := γ.q true) z zv.cells.toList zv.cells 0 hcB hp (fun j v hj => by rw [Nat.zero_add]; simpa using hj)
  have hbig : ¬ ((2 : Int) ^ 48 < (m : Int) * (i.bytes : Int)) := by
    have h1 : (m : Int) * (i.bytes : Int) ≤ (m : Int) * 4096 := Int.mul_le_mul_of_nonneg_left (by omega) (by omega)
    omega
  have hbig' : ¬ ((281474976710656 : Int) < (m : Int) * (i.bytes : Int)) := hbig
  let new := Builtin.zeroCells zv.cells m
  have hns : new.size = (List.replicate m (zps z)).length * wds z := by simp [new, size_zeroCells, hs1]
  have hnE : PEls w.heap (γ.q true) new (wds z) 0 (List.replicate m (zps z)) := zeros_ok hpz (fun j hj => by
    rw [Nat.zero_add]; simp only [new]; rw [zeroCells_get _ _ _ (by rw [hs1]; exact hj), hs1])
  have hneg : ¬ ((m : Int) < 0) := by omega
  have hs0 : i.size ≠ 0 := by omega
  have hnew0 : Builtin.zeroCells zv.cells 0 = #[] := by simp [Builtin.zeroCells]
  constructor
  · refine ⟨new, hns, hnE, fun base n c w' hle hst hnone => ?_⟩
    simp only [List.length_replicate] at hle ⊢
    cases base with
    | none =>
      have := hnone rfl; subst this
      rcases Nat.eq_zero_or_pos m with rfl | hmp
      · have hle' : n ≤ c := by omega
        simp [Builtin.append_, h0, h1, run_underlying' ht, run_underlying' hu, sizeOf, typeInfo, hi, asInt, asIntOf, hle', show IntKind.i64.wrap 0 = 0 from by simpa using hwr]
      · have hm0 : m ≠ 0 := by omega
        simp [Builtin.append_, h0, h1, run_underlying' ht, run_underlying' hu, sizeOf, typeInfo, hi, asInt, asIntOf, hwr, hneg, hbig', hle, hm0, hs0, Nat.mul_ne_zero hm0 hs0, zeroValue, hzv]
    | some ad =>
      have := hst ad rfl
      rw [← hs2] at this
      rcases Nat.eq_zero_or_pos m with rfl | hmp
      · have hle' : n ≤ c := by omega
        simp only [new, hnew0] at this
        have this : (storeCells (ad.add (n * i.size)) []).run P w = .ok () w' := this
        simp [Builtin.append_, h0, h1, run_underlying' ht, run_underlying' hu, sizeOf, typeInfo, hi, asInt, asIntOf, hle', this, show IntKind.i64.wrap 0 = 0 from by simpa using hwr]
      · have hm0 : m ≠ 0 := by omega
        simp only [new] at this
        simp [Builtin.append_, h0, h1, run_underlying' ht, run_underlying' hu, sizeOf, typeInfo, hi, asInt, asIntOf, hwr, hneg, hbig', hle, hm0, hs0, Nat.mul_ne_zero hm0 hs0, zeroValue, hzv, this]
  · refine ⟨new, hns, hnE, fun base n c old hlt hn hold => ?_⟩
    simp only [List.length_replicate] at hlt hn ⊢
    have hn' : ¬ (n + m ≤ c) := by omega
    have h63 : ¬ (9223372036854775807 < ((n : Int) + (m : Int))) := by omega
    have hfit : Builtin.nextslicecap (n + m) c * i.bytes ≤ 281474976710656 := growslice_fits hlt (by
      have := Nat.mul_le_mul hn hby; omega)
    have h48 : ¬ (281474976710656 < Builtin.nextslicecap (n + m) c * i.bytes) := by omega
    rw [← hs2] at hold
    refine ⟨grownCap w (n + m) c e, grownCap_ge w (n + m) c e, ?_⟩
    rcases Nat.eq_zero_or_pos m with rfl | hmp
    · have hn'' : ¬ n ≤ c := by omega
      have h63' : ¬ (9223372036854775807 < (n : Int)) := by omega
      simp only [Nat.add_zero] at h48 ⊢
      simp only [new, hnew0]
      simp [Builtin.append_, h0, h1, run_underlying' ht, run_underlying' hu, sizeOf, typeInfo, zeroValue, hi, hzv, asInt, asIntOf, hn'', h63', h48, Question.forced, hold, newRow, grownCap, show IntKind.i64.wrap 0 = 0 from by simpa using hwr]
    · have hm0 : m ≠ 0 := by omega
      simp only [new]
      simp [Builtin.append_, h0, h1, run_underlying' ht, run_underlying' hu, sizeOf, typeInfo, zeroValue, hi, hzv, asInt, asIntOf, hwr, hneg, hbig', hn', h63, h48, Question.forced, hold, hm0, hs0, Nat.mul_ne_zero hm0 hs0, newRow, grownCap]

theorem apE_ok (S : St C γ w a.tmps sl ob) {at' : Array TypeId} {ty e : TypeId} {d : Nat} {z : List PV} {zv : Value} {x y : Value} {xv : PV} {gy : Bool} {ys : List (List PV)} {r : Up}
    (hs1 : zv.cells.size = wds z) (hz0 : 0 < wds z) (hx : RV C.fid γ w.heap x xv) (hA : allW (wds z) ys = true → Apd P γ w at' ty e y z zv gy ys) (H : apE ob d (wds z) gy ys xv = some r) :
    ∃ (v : Value) (w' : World) (γ' : Gh), (Builtin.append_ at' ty #[x, y]).run P w = .ok v w' ∧ RV C.fid γ' w'.heap v r.1 ∧ St C γ' w' a.tmps sl (r.2 ++ ob) := by
  unfold apE at H
  split at H
  · rename_i nl
    split at H
    · rename_i hc
      obtain ⟨hlen, hW⟩ := hc
      simp only [two32] at hlen
      obtain ⟨hd, rfl⟩ := newX_ok H
      obtain ⟨ad, rfl, hn⟩ := RV_e.1 hx
      obtain ⟨new, hns, hnE, hin0⟩ := (hA hW).sin
      rcases Nat.eq_zero_or_pos ys.length with hm | hm
      · have hys : ys = [] := List.eq_nil_of_length_eq_zero hm
        subst hys
        have hnew0 : new = #[] := by
          apply Array.eq_empty_of_size_eq_zero; rw [hns]; simp
        subst hnew0
        have hrun := hin0 ad 0 0 w (by simp) (fun ad' _ => by simp [storeCells]) (fun _ => rfl)
        obtain ⟨M, S1⟩ := S.new0 hd (x := row [] (wds z) (gy || flatEls [])) rfl rfl (.inl rfl) (wds z)
        exact ⟨_, _, _, hrun, RV_sl.2 ⟨_, Gh.set_mu .., Nat.le_refl _, _, _, rfl, fun _ => ⟨rfl, Nat.le_refl _, fun h => by simp at h⟩⟩, S1⟩
      · obtain ⟨new', hns', hnE', hout⟩ := (hA hW).sout
        obtain ⟨cap, hcap, hrun⟩ := hout ad 0 0 #[] (by omega) (by omega) (by cases ad <;> simp [Builtin.firstCells, loadCells, loadCellsFrom])
        have hE := (app_els (γ := γ) (g := true) (xs := []) (c1 := #[]) (by simp only [PEls]) hnE').2
        have hcat : PEls w.heap (γ.q (gy || flatEls ys)) (#[] ++ new' ++ Builtin.zeroCells zv.cells (cap - (0 + ys.length))) (wds z) 0 ys := by
          have := row_cat (c3 := Builtin.zeroCells zv.cells (cap - (0 + ys.length))) (xs := []) (c1 := #[]) (by simp only [PEls]) hE (by simp) hns'
          simpa using this
        have := S.new hd (w' := w.drew.alloc (.cells (#[] ++ new' ++ Builtin.zeroCells zv.cells (cap - (0 + ys.length))) e)) (own_new w.drew _ e) (fun i hi => heap_old w.drew _ i hi) ((Chg.drew _ w).trans (Chg.alloc _ _ _))
          (x := row ys (wds z) (gy || flatEls ys)) (i := ⟨0, some w.heap.size, wds z, cap⟩) rfl rfl (fun c h => by simp [row] at h) (by simp only [row]; omega) rfl
          (by simp only [Array.size_append, size_zeroCells, hs1, hns', Array.size_empty, Nat.zero_add]; rw [← Nat.add_mul]; exact Nat.mul_le_mul_right _ (by omega)) (.inl ⟨rfl, hcat⟩)
        refine ⟨_, _, _, hrun, RV_sl.2 ⟨_, Gh.set_mu .., Nat.le_refl _, _, _, by simp; exact ⟨rfl, rfl⟩, fun _ => ⟨by simp, by omega, fun _ => ⟨w.heap.size, rfl, by simp⟩⟩⟩, this.2⟩
    · cases H
  · rename_i o ver lo n
    cases hY : getO ob o with
    | none => simp [hY, apO] at H
    | some Y =>
      simp only [hY, apO] at H
      split at H
      · rename_i hc
        obtain ⟨hver, hw, hpu, hfro, hlo, hn, hlen, hW⟩ := hc
        subst hlo
        simp only [two32] at hlen
        obtain ⟨I, hI, hv, base, c, rfl, hh⟩ := RV_sl.1 hx
        obtain ⟨I', hI', q1, q2, q3, q4⟩ := S.obj o Y hY
        rw [hI] at hI'; injection hI' with hI'; subst hI'
        obtain ⟨k1, k2, k3⟩ := hh (by omega)
        rw [Nat.zero_add] at k1
        have hother : ∀ {b : Nat} {w' : World}, I.blk = some b → Wr w w' b → ∀ o' j b', o' ≠ o → γ.mu o' = some j → j.blk = some b' → w'.heap[b']? = w.heap[b']? := by
          intro b w' hb hwr o' j b' ho hj hb'
          exact hwr.other b' (fun e => ho (by subst e; exact S.inj o' o j I b' hj hI hb' hb))
        by_cases hroom : n + ys.length ≤ c
        · -- in place
          obtain ⟨new, hns, hnE, hin0⟩ := (hA hW).sin
          have hIw : ∀ b, I.blk = some b → I.w = wds z := fun b hb => by simp only [hb] at q4; rw [← q4.1, hw]
          rcases Nat.eq_zero_or_pos ys.length with hm | hm
          · have hys : ys = [] := List.eq_nil_of_length_eq_zero hm
            subst hys
            have hnew0 : new = #[] := by
              apply Array.eq_empty_of_size_eq_zero; rw [hns]; simp
            subst hnew0
            rw [if_pos (by simpa using hn)] at H
            injection H with H; subst H
            have hrun := hin0 base n c w hroom (fun ad' _ => by simp [storeCells]) (fun _ => rfl)
            refine ⟨_, w, _, hrun, RV_sl.2 ⟨I, Gh.set_mu .., hv, base, c, rfl, fun _ => ⟨by omega, by simpa using k2, k3⟩⟩, S.rep (i' := I) hY hfro hI (.inl rfl) (fun _ _ => rfl) (fun _ _ _ _ _ _ => rfl) (Chg.refl _ _) q1 q2 ?_ hpu ?_⟩
            · simp; omega
            · cases hbk : I.blk with
              | none => simpa only [hbk] using q4
              | some b =>
                simp only [hbk] at q4 ⊢
                obtain ⟨p1, cs, p2, p3, p4⟩ := q4
                refine ⟨p1, .inl trivial, cs, p2, p3, ?_⟩
                rcases p4 with ⟨_, p4⟩ | ⟨hp, _⟩
                · simp only [List.nil_append, List.length_nil, Nat.add_zero, List.take_append_drop]
                  exact PEls_mono (fun b h => ⟨⟨h.1, fun e => h.2 (by simp at e; exact e.1)⟩, rfl⟩) _ _ _ _ p4
                · rw [hpu] at hp; cases hp
          · obtain ⟨b, hbk, rfl⟩ := k3 (by omega)
            have hIw := hIw b hbk
            simp only [hbk] at q4
            obtain ⟨p1, cs, ⟨tt, fr, p2, p2'⟩, p3, p4⟩ := q4
            have p4 : PEls w.heap (γ.q Y.g) cs I.w 0 Y.els := by
              rcases p4 with ⟨_, p4⟩ | ⟨hp, _⟩
              · exact p4
              · rw [hpu] at hp; cases hp
            rw [hIw] at p3 p4
            have hmul : (n + ys.length) * wds z ≤ cs.size := Nat.le_trans (Nat.mul_le_mul_right _ (by omega)) p3
            have hnl : new.toList.length = ys.length * wds z := by rw [Array.length_toList, hns]
            obtain ⟨w', cs', g1, g2, g3, g4, g5⟩ := run_storeCells_own (P := P) b (0 * I.w + n * wds z) tt fr new.toList 0 cs w p2 p2' (by rw [hnl]; rw [Nat.add_mul] at hmul; omega) (mem_one hns hnE)
            have hrun := hin0 (some ⟨b, 0 * I.w, none⟩) n c w' hroom (fun ad' e' => by injection e' with e'; subst e'; rw [add_none]; exact g1) (fun h => by cases h)
            have hsame : ∀ k v, k < n * wds z ∨ (n + ys.length) * wds z ≤ k → cs[k]? = some v → cs'[k]? = some v := by
              intro k v hk hv'
              rw [g5, if_neg (by rw [hnl]; rw [Nat.add_mul] at hk; omega)]; exact hv'
            have hput : ∀ k v, k < ys.length * wds z → new[k]? = some v → cs'[n * wds z + k]? = some v := by
              intro k v hk hv'
              rw [g5, if_pos (by rw [hnl]; omega), show n * wds z + k - (0 * I.w + n * wds z + 0) = k by omega, Array.getElem?_toList]; exact hv'
            obtain ⟨e1, e2⟩ := app_els (γ := γ) p4 hnE
            have hown : ownAt w'.heap b cs' := ⟨tt, fr, g2, by rw [g3]; exact p2'⟩
            have hhv : HSl I 0 (n + ys.length) (some ⟨b, 0 * I.w, none⟩) c := ⟨by omega, hroom, fun _ => ⟨b, hbk, rfl⟩⟩
            split at H
            · rename_i hin
              injection H with H; subst H
              refine ⟨_, w', _, hrun, RV_sl.2 ⟨I, Gh.set_mu .., hv, _, c, rfl, fun _ => hhv⟩, S.rep (i' := I) hY hfro hI (.inl rfl) (fun b' hb' => g4.other b' (fun e => S.unf o Y I b hY hfro hI hbk (e ▸ hb'))) (hother hbk g4) (g4.chg (S.own o I b hI hbk)) q1 q2 ?_ hpu ?_⟩
              · simp; omega
              · simp only [hbk]
                exact ⟨p1, .inl trivial, cs', hown, by rw [g3, hIw]; exact p3, by rw [hIw]; exact row_put e1 e2 hin hsame hput⟩
            · rename_i hin
              injection H with H; subst H
              refine ⟨_, w', _, hrun, RV_sl.2 ⟨{ I with ver := I.ver + 1 }, Gh.set_mu .., by simp; omega, _, c, rfl, fun _ => ⟨by simp; omega, hroom, fun _ => ⟨b, hbk, rfl⟩⟩⟩, S.rep (i' := { I with ver := I.ver + 1 }) hY hfro hI (.inr (by simp)) (fun b' hb' => g4.other b' (fun e => S.unf o Y I b hY hfro hI hbk (e ▸ hb'))) (hother hbk g4) (g4.chg (S.own o I b hI hbk)) (by simp; omega) (fun c h => by simp at h) ?_ rfl ?_⟩
              · simp; omega
              · simp only [hbk]
                exact ⟨hIw.symm, .inl trivial, cs', hown, by rw [g3, hIw]; exact p3, by rw [hIw]; exact row_put2 e1 e2 hn hsame hput⟩
        · -- a new block
          have hin : ¬ (n + ys.length ≤ Y.els.length) := by omega
          rw [if_neg hin] at H
          injection H with H; subst H
          obtain ⟨new, hns, hnE, hout⟩ := (hA hW).sout
          -- the old elements
          have hcx : contX (getO ob o) ver 0 n = some (Y.g, (Y.els.drop 0).take n) := by rw [hY]; simp only [contX]; rw [if_pos ⟨hpu, hver, by omega⟩]
          obtain ⟨hSl, _⟩ := contX_ok (act := a) S hx hcx
          simp only [List.drop_zero] at hSl
          have hWo : allW (wds z) (Y.els.take n) = true := by
            rcases Nat.eq_zero_or_pos n with hn0 | hn0
            · subst hn0; rfl
            · obtain ⟨b, hbk, rfl⟩ := k3 (by omega)
              simp only [hbk] at q4
              obtain ⟨p1, cs, p2, p3, p4⟩ := q4
              rcases p4 with ⟨_, p4⟩ | ⟨hp, _⟩
              · have := PEls_sub p4 0 n
                rw [← p1, hw, List.drop_zero] at this
                exact allW_of this
              · rw [hpu] at hp; cases hp
          have hol : (Y.els.take n).length = n := by simp; omega
          obtain ⟨_, hfo⟩ := src_ok (P := P) (w := w.drew) (γ := γ) hz0 (show SrcR γ w.drew.heap (.slice base n c) Y.g (Y.els.take n) from .inl hSl) hWo
          obtain ⟨old, hold, hos, hoE⟩ := hfo n (by omega)
          rw [List.take_take, Nat.min_self] at hoE
          obtain ⟨cap, hcap, hrun⟩ := hout base n c old (by omega) (by omega) hold
          obtain ⟨e1, e2⟩ := app_els (γ := γ) (w := w.drew) hoE hnE
          have hcat := row_cat (c3 := Builtin.zeroCells zv.cells (cap - (n + ys.length))) e1 e2 (by rw [hos, hol]) hns
          refine ⟨_, w.drew.alloc (.cells (old ++ new ++ Builtin.zeroCells zv.cells (cap - (n + ys.length))) e), _, hrun, RV_sl.2 ⟨⟨I.ver + 1, some w.heap.size, wds z, cap⟩, Gh.set_mu .., by simp; omega, _, _, rfl, fun _ => ⟨by simp, hcap, fun _ => ⟨w.heap.size, rfl, by simp⟩⟩⟩,
            S.rep (i' := ⟨I.ver + 1, some w.heap.size, wds z, cap⟩) hY hfro hI (.inr (by simp)) (fun b' hb' => heap_old w.drew _ b' (S.lt b' hb')) (fun o' j b' _ hj hb' => heap_old w.drew _ b' (blk_lt S hj hb')) ((Chg.drew _ w).trans (Chg.alloc _ _ _)) (by simp; omega) (fun c h => by simp at h) ?_ rfl ?_⟩
          · simp; omega
          · refine ⟨rfl, .inr (Nat.le_refl _), _, own_new w.drew _ e, ?_, hcat⟩
            simp only [Array.size_append, size_zeroCells, hs1, hns, hos]
            rw [← Nat.add_mul, ← Nat.add_mul]; exact Nat.mul_le_mul_right _ (by omega)
      · cases H
  · cases H
end
end Go.Proofs.YtcimkkcajkmfoaaDoor
