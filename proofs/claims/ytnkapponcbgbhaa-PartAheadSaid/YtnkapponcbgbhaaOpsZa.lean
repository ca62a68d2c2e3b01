import Derived.Test.YtnkapponcbgbhaaOpsX
import Derived.Laws.IdiomStrings
set_option linter.all false
namespace Go.Proofs.Ytnkapponcbgbhaa
section
open Go
theorem Gh.set_mu (γ : Gh) (d : Nat) (i : HI) : (γ.set d i).mu d = some i := by simp [Gh.set]
section
variable {P : Program} {C : Ctx} {γ : Gh} {w : World} {a : Act} {sl : SL} {ob : OB}
theorem St.new0 (S : St C γ w a.tmps sl ob) {d : Nat} (hd : getO ob d = none) {x : Obj'} (hv : x.ver = 0) (hl : x.els = []) (hc : x.cap = none ∨ x.cap = some 0) (w' : Nat) :
    (∀ S', Mv γ (γ.set d ⟨0, none, w', 0⟩) w.heap w.heap S' (fun o => o)) ∧ St C (γ.set d ⟨0, none, w', 0⟩) w a.tmps sl ([(d, x)] ++ ob) := by
  have hmu := mu_none S hd
  have hset : ∀ o, o ≠ d → (γ.set d ⟨0, none, w', 0⟩).mu o = γ.mu o := fun o ho => by simp [Gh.set, ho]
  have hver : ∀ o j, γ.mu o = some j → ∃ i', (γ.set d ⟨0, none, w', 0⟩).mu o = some i' ∧ (i' = j ∨ j.ver < i'.ver) := fun o j hj => by
    have : o ≠ d := fun e => by subst e; rw [hmu] at hj; cases hj
    exact ⟨j, by rw [hset o this]; exact hj, .inl rfl⟩
  refine ⟨fun S' => ⟨fun o _ j hj => hver o j hj, fun g b h => ⟨h, rfl⟩⟩, (S.change (γ' := γ.set d ⟨0, none, w', 0⟩) (u := [(d, x)]) ?_ hver (fun b h => ⟨h, rfl⟩) rfl (fun o i b _ _ _ => ⟨rfl, id⟩) ?_ S.lt (fun b h => .inl h) (Chg.refl _ _)).2.2⟩
  · intro o ho
    simp only [getO] at ho
    split at ho
    · cases ho
    · rename_i h; exact hset o (Ne.symm h)
  · intro o y hy
    simp only [getO] at hy
    split at hy
    · rename_i h
      subst h
      injection hy with hy; subst hy
      refine ⟨_, Gh.set_mu .., ⟨hv, fun c h => ?_, by rw [hl]; simp, rfl⟩, fun b hb => by cases hb⟩
      rcases hc with hc | hc <;> rw [hc] at h <;> simp at h
      exact h
    · cases hy
theorem allW_of {h : Array Obj} {q : Nat → Prop} {cs : Array Value} {w' : Nat} : ∀ {l : List (List PV)} {off : Nat}, PEls h q cs w' off l → allW w' l = true
  | [], _, _ => rfl
  | x :: r, off, H => by
    simp only [PEls] at H
    simp only [allW, Bool.and_eq_true, beq_iff_eq]
    exact ⟨H.1, allW_of H.2.2⟩
theorem mem_one {new : Array Value} {ys : List (List PV)} {w' : Nat} {h : Array Obj} {q : Nat → Prop} (hs : new.size = ys.length * w') (H : PEls h q new w' 0 ys) : ∀ v ∈ new.toList, v.oneCell' = true := by
  intro v hv
  obtain ⟨i, hi, e⟩ := List.getElem_of_mem hv
  rw [Array.length_toList] at hi
  rw [Array.getElem_toList] at e
  have hw : 0 < w' := Nat.pos_of_ne_zero (fun e => by rw [e, Nat.mul_zero] at hs; omega)
  have hj : i / w' < ys.length := by rw [Nat.div_lt_iff_lt_mul hw]; omega
  have h1 := PEls_get H (i / w') _ (List.getElem?_eq_getElem hj)
  obtain ⟨u, hu, h2⟩ := oneCell_of h1.2 (i % w') (by rw [h1.1]; exact Nat.mod_lt _ hw)
  rw [Nat.zero_add, Nat.mul_comm, Nat.div_add_mod, Array.getElem?_eq_getElem hi] at hu
  injection hu with hu
  rw [← e, hu]; exact h2
structure Apd (P : Program) (γ : Gh) (w : World) (at' : Array TypeId) (ty e : TypeId) (y : Value) (z : List PV) (zv : Value) (gy : Bool) (ys : List (List PV)) : Prop where
  sin : ∃ new : Array Value, new.size = ys.length * wds z ∧ PEls w.heap (γ.q gy) new (wds z) 0 ys ∧ ∀ base n c w', n + ys.length ≤ c → (∀ ad : Addr, base = some ad → (storeCells (ad.add (n * wds z)) new.toList).run P w = .ok () w') → (base = none → w' = w) →
    (Builtin.append_ at' ty #[.slice base n c, y]).run P w = .ok (.slice base (n + ys.length) c) w'
  sout : ∃ new : Array Value, new.size = ys.length * wds z ∧ PEls w.heap (γ.q gy) new (wds z) 0 ys ∧ ∀ base n c old, c < n + ys.length → n + ys.length ≤ 4294967296 → (Builtin.firstCells (wds z) n (.slice base n c)).run P w.drew = .ok old w.drew →
    ∃ cap, n + ys.length ≤ cap ∧ (Builtin.append_ at' ty #[.slice base n c, y]).run P w = .ok (.slice (some ⟨w.heap.size, 0, none⟩) (n + ys.length) cap) (w.drew.alloc (.cells (old ++ new ++ Builtin.zeroCells zv.cells (cap - (n + ys.length))) e))
theorem apd_src {at' : Array TypeId} {ty t e u : TypeId} {i : TypeInfo} {z : List PV} {zv : Value} {du : TypeDesc} {y : Value} {gy : Bool} {ys : List (List PV)} (h0 : at'[0]? = some t) (h1 : at'[1]? = some u) (ht : P.underlying t = some (.slice e)) (hu : P.underlying u = some du)
    (hi : P.info? e = some i) (hzv : i.zero = some zv) (hs2 : i.size = wds z) (hby : i.bytes ≤ 4096) (hz0 : 0 < wds z) (hni : ∀ k, du ≠ .int k) (hy : SrcR γ w.heap y gy ys) (hW : allW (wds z) ys = true) : Apd P γ w at' ty e y z zv gy ys := by
  constructor
  · obtain ⟨hl, hf⟩ := src_ok (P := P) (w := w) hz0 hy hW
    obtain ⟨new, hnew, hns, hnE⟩ := hf ys.length (Nat.le_refl _)
    rw [List.take_length] at hnE
    refine ⟨new, hns, hnE, fun base n c w' hle hst hnone => ?_⟩
    exact run_append_in h0 h1 ht hu hi hni hl hle (by rw [hs2]; exact hnew) (fun ad e => by rw [hs2]; exact hst ad e) hnone
  · obtain ⟨hl, _⟩ := src_ok (P := P) (w := w) hz0 hy hW
    obtain ⟨_, hf⟩ := src_ok (P := P) (w := w.drew) hz0 (show SrcR γ w.drew.heap y gy ys from hy) hW
    obtain ⟨new, hnew, hns, hnE⟩ := hf ys.length (Nat.le_refl _)
    rw [List.take_length] at hnE
    refine ⟨new, hns, hnE, fun base n c old hlt hle hold => ?_⟩
    exact run_append_out h0 h1 ht hu hi hzv hni hl hlt hby hle (by rw [hs2]; exact hold) (by rw [hs2]; exact hnew)
theorem zeroCells_get (zc : Array Value) (n j : Nat) (hj : j < n * zc.size) : (Builtin.zeroCells zc n)[j]? = zc[j % zc.size]? := by
  have hpos : 0 < zc.size := Nat.pos_of_ne_zero (fun e => by rw [e, Nat.mul_zero] at hj; omega)
  have hlt : j % zc.size < zc.size := Nat.mod_lt _ hpos
  simp [Builtin.zeroCells, hj, getElem!_pos, hlt]
theorem apd_int {at' : Array TypeId} {ty t e u : TypeId} {i : TypeInfo} {z : List PV} {zv : Value} {k k' : IntKind} {m : Nat} (h0 : at'[0]? = some t) (h1 : at'[1]? = some u) (ht : P.underlying t = some (.slice e)) (hu : P.underlying u = some (.int k))
    (hi : P.info? e = some i) (hzv : i.zero = some zv) (hs1 : zv.cells.size = wds z) (hs2 : i.size = wds z) (hby : i.bytes ≤ 4096) (hz0 : 0 < wds z) (hcB : cellsB zv.cells.toList z = true) (hm : m ≤ 4294967296) (hp : isPures (zps z) = true) : Apd P γ w at' ty e (.int k' m) z zv true (List.replicate m (zps z)) := by
  have hwr : IntKind.i64.wrap (m : Int) = m := wrap_small (by omega) (by omega)
  have hpz := cellsB_P (h := w.heap) (q := γ.q true) z zv.cells.toList zv.cells 0 hcB hp (fun j v hj => by rw [Nat.zero_add]; simpa using hj)
  have hbig : ¬ ((2 : Int) ^ 48 < (m : Int) * (i.bytes : Int)) := by
    have h1 : (m : Int) * (i.bytes : Int) ≤ (m : Int) * 4096 := Int.mul_le_mul_of_nonneg_left (by omega) (by omega)
    omega
  have hbig' : ¬ ((281474976710656 : Int) < (m : Int) * (i.bytes : Int)) := hbig
  let new := Builtin.zeroCells zv.cells m
  have hns : new.size = (List.replicate m (zps z)).length * wds z := by simp [new, size_zeroCells, hs1]
  have hnE : PEls w.heap (γ.q true) new (wds z) 0 (List.replicate m (zps z)) := zeros_ok hpz (fun j hj => by
    rw [Nat.zero_add]; simp only [new]; rw [zeroCells_get _ _ _ (by rw [hs1]; exact hj), hs1])
  have hneg : ¬ ((m : Int) < 0) := by omega
  have hs0 : i.size ≠ 0 := by omega
  have hnew0 : Builtin.zeroCells zv.cells 0 = #[] := by simp [Builtin.zeroCells]
  constructor
  · refine ⟨new, hns, hnE, fun base n c w' hle hst hnone => ?_⟩
    simp only [List.length_replicate] at hle ⊢
    cases base with
    | none =>
      have := hnone rfl; subst this
      rcases Nat.eq_zero_or_pos m with rfl | hmp
      · have hle' : n ≤ c := by omega
        simp [Builtin.append_, h0, h1, run_underlying' ht, run_underlying' hu, sizeOf, typeInfo, hi, asInt, asIntOf, hle', show IntKind.i64.wrap 0 = 0 from by simpa using hwr]
      · have hm0 : m ≠ 0 := by omega
        simp [Builtin.append_, h0, h1, run_underlying' ht, run_underlying' hu, sizeOf, typeInfo, hi, asInt, asIntOf, hwr, hneg, hbig', hle, hm0, hs0, Nat.mul_ne_zero hm0 hs0, zeroValue, hzv]
    | some ad =>
      have := hst ad rfl
      rw [← hs2] at this
      rcases Nat.eq_zero_or_pos m with rfl | hmp
      · have hle' : n ≤ c := by omega
        simp only [new, hnew0] at this
        have this : (storeCells (ad.add (n * i.size)) []).run P w = .ok () w' := this
        simp [Builtin.append_, h0, h1, run_underlying' ht, run_underlying' hu, sizeOf, typeInfo, hi, asInt, asIntOf, hle', this, show IntKind.i64.wrap 0 = 0 from by simpa using hwr]
      · have hm0 : m ≠ 0 := by omega
        simp only [new] at this
        simp [Builtin.append_, h0, h1, run_underlying' ht, run_underlying' hu, sizeOf, typeInfo, hi, asInt, asIntOf, hwr, hneg, hbig', hle, hm0, hs0, Nat.mul_ne_zero hm0 hs0, zeroValue, hzv, this]
  · refine ⟨new, hns, hnE, fun base n c old hlt hn hold => ?_⟩
    simp only [List.length_replicate] at hlt hn ⊢
    have hn' : ¬ (n + m ≤ c) := by omega
    have h63 : ¬ (9223372036854775807 < ((n : Int) + (m : Int))) := by omega
    have hfit : Builtin.nextslicecap (n + m) c * i.bytes ≤ 281474976710656 := growslice_fits hlt (by
      have := Nat.mul_le_mul hn hby; omega)
    have h48 : ¬ (281474976710656 < Builtin.nextslicecap (n + m) c * i.bytes) := by omega
    rw [← hs2] at hold
    refine ⟨grownCap w (n + m) c e, grownCap_ge w (n + m) c e, ?_⟩
    rcases Nat.eq_zero_or_pos m with rfl | hmp
    · have hn'' : ¬ n ≤ c := by omega
      have h63' : ¬ (9223372036854775807 < (n : Int)) := by omega
      simp only [Nat.add_zero] at h48 ⊢
      simp only [new, hnew0]
      simp [Builtin.append_, h0, h1, run_underlying' ht, run_underlying' hu, sizeOf, typeInfo, zeroValue, hi, hzv, asInt, asIntOf, hn'', h63', h48, Question.forced, hold, newRow, grownCap, show IntKind.i64.wrap 0 = 0 from by simpa using hwr]
    · have hm0 : m ≠ 0 := by omega
      simp only [new]
      simp [Builtin.append_, h0, h1, run_underlying' ht, run_underlying' hu, sizeOf, typeInfo, zeroValue, hi, hzv, asInt, asIntOf, hwr, hneg, hbig', hn', h63, h48, Question.forced, hold, hm0, hs0, Nat.mul_ne_zero hm0 hs0, newRow, grownCap]
theorem apE_ok (S : St C γ w a.tmps sl ob) {at' : Array TypeId} {ty e : TypeId} {d : Nat} {z : List PV} {zv : Value} {x y : Value} {xv : PV} {gy : Bool} {ys : List (List PV)} {r : Up}
    (hs1 : zv.cells.size = wds z) (hz0 : 0 < wds z) (hx : RV C.fid γ w.heap x xv) (hA : allW (wds z) ys = true → Apd P γ w at' ty e y z zv gy ys) (H : apE ob d (wds z) gy ys xv = some r) :
    ∃ (v : Value) (w' : World) (γ' : Gh), (Builtin.append_ at' ty #[x, y]).run P w = .ok v w' ∧ RV C.fid γ' w'.heap v r.1 ∧ St C γ' w' a.tmps sl (r.2 ++ ob) := by
  unfold apE at H
  split at H
  · rename_i nl
    split at H
    · rename_i hc
      obtain ⟨hlen, hW⟩ := hc
      simp only [two32] at hlen
      obtain ⟨hd, rfl⟩ := newX_ok H
      obtain ⟨ad, rfl, hn⟩ := RV_e.1 hx
      obtain ⟨new, hns, hnE, hin0⟩ := (hA hW).sin
      rcases Nat.eq_zero_or_pos ys.length with hm | hm
      · have hys : ys = [] := List.eq_nil_of_length_eq_zero hm
        subst hys
        have hnew0 : new = #[] := by
          apply Array.eq_empty_of_size_eq_zero; rw [hns]; simp
        subst hnew0
        have hrun := hin0 ad 0 0 w (by simp) (fun ad' _ => by simp [storeCells]) (fun _ => rfl)
        obtain ⟨M, S1⟩ := S.new0 hd (x := row [] (wds z) (gy || flatEls [])) rfl rfl (.inl rfl) (wds z)
        exact ⟨_, _, _, hrun, RV_sl.2 ⟨_, Gh.set_mu .., Nat.le_refl _, _, _, rfl, fun _ => ⟨rfl, Nat.le_refl _, fun h => by simp at h⟩⟩, S1⟩
      · obtain ⟨new', hns', hnE', hout⟩ := (hA hW).sout
        obtain ⟨cap, hcap, hrun⟩ := hout ad 0 0 #[] (by omega) (by omega) (by cases ad <;> simp [Builtin.firstCells, loadCells, loadCellsFrom])
        have hE := (app_els (γ := γ) (g := true) (xs := []) (c1 := #[]) (by simp only [PEls]) hnE').2
        have hcat : PEls w.heap (γ.q (gy || flatEls ys)) (#[] ++ new' ++ Builtin.zeroCells zv.cells (cap - (0 + ys.length))) (wds z) 0 ys := by
          have := row_cat (c3 := Builtin.zeroCells zv.cells (cap - (0 + ys.length))) (xs := []) (c1 := #[]) (by simp only [PEls]) hE (by simp) hns'
          simpa using this
        have := S.new hd (w' := w.drew.alloc (.cells (#[] ++ new' ++ Builtin.zeroCells zv.cells (cap - (0 + ys.length))) e)) (own_new w.drew _ e) (fun i hi => heap_old w.drew _ i hi) ((Chg.drew _ w).trans (Chg.alloc _ _ _))
          (x := row ys (wds z) (gy || flatEls ys)) (i := ⟨0, some w.heap.size, wds z, cap⟩) rfl rfl (fun c h => by simp [row] at h) (by simp only [row]; omega) rfl
          (by simp only [Array.size_append, size_zeroCells, hs1, hns', Array.size_empty, Nat.zero_add]; rw [← Nat.add_mul]; exact Nat.mul_le_mul_right _ (by omega)) (.inl ⟨rfl, hcat⟩)
        refine ⟨_, _, _, hrun, RV_sl.2 ⟨_, Gh.set_mu .., Nat.le_refl _, _, _, by simp; exact ⟨rfl, rfl⟩, fun _ => ⟨by simp, by omega, fun _ => ⟨w.heap.size, rfl, by simp⟩⟩⟩, this.2⟩
    · cases H
  · rename_i o ver lo n
    cases hY : getO ob o with
    | none => simp [hY, apO] at H
    | some Y =>
      simp only [hY, apO] at H
      split at H
      · rename_i hc
        obtain ⟨hver, hw, hpu, hfro, hlo, hn, hlen, hW⟩ := hc
        subst hlo
        simp only [two32] at hlen
        obtain ⟨I, hI, hv, base, c, rfl, hh⟩ := RV_sl.1 hx
        obtain ⟨I', hI', q1, q2, q3, q4⟩ := S.obj o Y hY
        rw [hI] at hI'; injection hI' with hI'; subst hI'
        obtain ⟨k1, k2, k3⟩ := hh (by omega)
        rw [Nat.zero_add] at k1
        have hother : ∀ {b : Nat} {w' : World}, I.blk = some b → Wr w w' b → ∀ o' j b', o' ≠ o → γ.mu o' = some j → j.blk = some b' → w'.heap[b']? = w.heap[b']? := by
          intro b w' hb hwr o' j b' ho hj hb'
          exact hwr.other b' (fun e => ho (by subst e; exact S.inj o' o j I b' hj hI hb' hb))
        by_cases hroom : n + ys.length ≤ c
        · 
          obtain ⟨new, hns, hnE, hin0⟩ := (hA hW).sin
          have hIw : ∀ b, I.blk = some b → I.w = wds z := fun b hb => by simp only [hb] at q4; rw [← q4.1, hw]
          rcases Nat.eq_zero_or_pos ys.length with hm | hm
          · have hys : ys = [] := List.eq_nil_of_length_eq_zero hm
            subst hys
            have hnew0 : new = #[] := by
              apply Array.eq_empty_of_size_eq_zero; rw [hns]; simp
            subst hnew0
            rw [if_pos (by simpa using hn)] at H
            injection H with H; subst H
            have hrun := hin0 base n c w hroom (fun ad' _ => by simp [storeCells]) (fun _ => rfl)
            refine ⟨_, w, _, hrun, RV_sl.2 ⟨I, Gh.set_mu .., hv, base, c, rfl, fun _ => ⟨by omega, by simpa using k2, k3⟩⟩, S.rep (i' := I) hY hfro hI (.inl rfl) (fun _ _ => rfl) (fun _ _ _ _ _ _ => rfl) (Chg.refl _ _) q1 q2 ?_ hpu ?_⟩
            · simp; omega
            · cases hbk : I.blk with
              | none => simpa only [hbk] using q4
              | some b =>
                simp only [hbk] at q4 ⊢
                obtain ⟨p1, cs, p2, p3, p4⟩ := q4
                obtain ⟨hmp, p2⟩ := p2.cells (by first | exact .inr (by assumption) | exact .inl (fun e0 => by simp_all) | exact .inl (fun e0 => by rw [e0] at *; simp at *; omega))
                refine ⟨p1, .inl trivial, cs, p2, p3, ?_⟩
                rcases p4 with ⟨_, p4⟩ | ⟨hp, _⟩
                · simp only [List.nil_append, List.length_nil, Nat.add_zero, List.take_append_drop]
                  exact PEls_mono (fun b h => ⟨⟨h.1, fun e => h.2 (by simp at e; exact e.1)⟩, rfl⟩) _ _ _ _ p4
                · rw [hpu] at hp; cases hp
          · obtain ⟨b, hbk, rfl⟩ := k3 (by omega)
            have hIw := hIw b hbk
            simp only [hbk] at q4
            obtain ⟨p1, cs, pown, p3, p4⟩ := q4
            obtain ⟨hmp, tt, fr, p2, p2'⟩ := pown.cells (by first | exact .inr (by assumption) | exact .inl (fun e0 => by simp_all) | exact .inl (fun e0 => by rw [e0] at *; simp at *; omega))
            have p4 : PEls w.heap (γ.q Y.g) cs I.w 0 Y.els := by
              rcases p4 with ⟨_, p4⟩ | ⟨hp, _⟩
              · exact p4
              · rw [hpu] at hp; cases hp
            rw [hIw] at p3 p4
            have hmul : (n + ys.length) * wds z ≤ cs.size := Nat.le_trans (Nat.mul_le_mul_right _ (by omega)) p3
            have hnl : new.toList.length = ys.length * wds z := by rw [Array.length_toList, hns]
            obtain ⟨w', cs', g1, g2, g3, g4, g5⟩ := run_storeCells_own (P := P) b (0 * I.w + n * wds z) tt fr new.toList 0 cs w p2 p2' (by rw [hnl]; rw [Nat.add_mul] at hmul; omega) (mem_one hns hnE)
            have hrun := hin0 (some ⟨b, 0 * I.w, none⟩) n c w' hroom (fun ad' e' => by injection e' with e'; subst e'; rw [add_none]; exact g1) (fun h => by cases h)
            have hsame : ∀ k v, k < n * wds z ∨ (n + ys.length) * wds z ≤ k → cs[k]? = some v → cs'[k]? = some v := by
              intro k v hk hv'
              rw [g5, if_neg (by rw [hnl]; rw [Nat.add_mul] at hk; omega)]; exact hv'
            have hput : ∀ k v, k < ys.length * wds z → new[k]? = some v → cs'[n * wds z + k]? = some v := by
              intro k v hk hv'
              rw [g5, if_pos (by rw [hnl]; omega), show n * wds z + k - (0 * I.w + n * wds z + 0) = k by omega, Array.getElem?_toList]; exact hv'
            obtain ⟨e1, e2⟩ := app_els (γ := γ) p4 hnE
            have hown : ownAt w'.heap b cs' := ⟨tt, fr, g2, by rw [g3]; exact p2'⟩
            have hhv : HSl I 0 (n + ys.length) (some ⟨b, 0 * I.w, none⟩) c := ⟨by omega, hroom, fun _ => ⟨b, hbk, rfl⟩⟩
            split at H
            · rename_i hin
              injection H with H; subst H
              refine ⟨_, w', _, hrun, RV_sl.2 ⟨I, Gh.set_mu .., hv, _, c, rfl, fun _ => hhv⟩, S.rep (i' := I) hY hfro hI (.inl rfl) (fun b' hb' => g4.other b' (fun e => S.unf o Y I b hY hfro hI hbk (e ▸ hb'))) (hother hbk g4) (g4.chg (S.own o I b hI hbk)) q1 q2 ?_ hpu ?_⟩
              · simp; omega
              · simp only [hbk]
                exact ⟨p1, .inl trivial, cs', hown, by rw [g3, hIw]; exact p3, by rw [hIw]; exact row_put e1 e2 hin hsame hput⟩
            · rename_i hin
              injection H with H; subst H
              refine ⟨_, w', _, hrun, RV_sl.2 ⟨{ I with ver := I.ver + 1 }, Gh.set_mu .., by simp; omega, _, c, rfl, fun _ => ⟨by simp; omega, hroom, fun _ => ⟨b, hbk, rfl⟩⟩⟩, S.rep (i' := { I with ver := I.ver + 1 }) hY hfro hI (.inr (by simp)) (fun b' hb' => g4.other b' (fun e => S.unf o Y I b hY hfro hI hbk (e ▸ hb'))) (hother hbk g4) (g4.chg (S.own o I b hI hbk)) (by simp; omega) (fun c h => by simp at h) ?_ rfl ?_⟩
              · simp; omega
              · simp only [hbk]
                exact ⟨hIw.symm, .inl trivial, cs', hown, by rw [g3, hIw]; exact p3, by rw [hIw]; exact row_put2 e1 e2 hn hsame hput⟩
        · 
          have hin : ¬ (n + ys.length ≤ Y.els.length) := by omega
          rw [if_neg hin] at H
          injection H with H; subst H
          obtain ⟨new, hns, hnE, hout⟩ := (hA hW).sout
          have hcx : contX (getO ob o) ver 0 n = some (Y.g, (Y.els.drop 0).take n) := by rw [hY]; simp only [contX]; rw [if_pos ⟨hpu, hver, by omega⟩]
          obtain ⟨hSl, _⟩ := contX_ok (act := a) S hx hcx
          simp only [List.drop_zero] at hSl
          have hWo : allW (wds z) (Y.els.take n) = true := by
            rcases Nat.eq_zero_or_pos n with hn0 | hn0
            · subst hn0; rfl
            · obtain ⟨b, hbk, rfl⟩ := k3 (by omega)
              simp only [hbk] at q4
              obtain ⟨p1, cs, p2, p3, p4⟩ := q4
              obtain ⟨hmp, p2⟩ := p2.cells (by first | exact .inr (by assumption) | exact .inl (fun e0 => by simp_all) | exact .inl (fun e0 => by rw [e0] at *; simp at *; omega))
              rcases p4 with ⟨_, p4⟩ | ⟨hp, _⟩
              · have := PEls_sub p4 0 n
                rw [← p1, hw, List.drop_zero] at this
                exact allW_of this
              · rw [hpu] at hp; cases hp
          have hol : (Y.els.take n).length = n := by simp; omega
          obtain ⟨_, hfo⟩ := src_ok (P := P) (w := w.drew) (γ := γ) hz0 (show SrcR γ w.drew.heap (.slice base n c) Y.g (Y.els.take n) from .inl hSl) hWo
          obtain ⟨old, hold, hos, hoE⟩ := hfo n (by omega)
          rw [List.take_take, Nat.min_self] at hoE
          obtain ⟨cap, hcap, hrun⟩ := hout base n c old (by omega) (by omega) hold
          obtain ⟨e1, e2⟩ := app_els (γ := γ) (w := w.drew) hoE hnE
          have hcat := row_cat (c3 := Builtin.zeroCells zv.cells (cap - (n + ys.length))) e1 e2 (by rw [hos, hol]) hns
          refine ⟨_, w.drew.alloc (.cells (old ++ new ++ Builtin.zeroCells zv.cells (cap - (n + ys.length))) e), _, hrun, RV_sl.2 ⟨⟨I.ver + 1, some w.heap.size, wds z, cap⟩, Gh.set_mu .., by simp; omega, _, _, rfl, fun _ => ⟨by simp, hcap, fun _ => ⟨w.heap.size, rfl, by simp⟩⟩⟩,
            S.rep (i' := ⟨I.ver + 1, some w.heap.size, wds z, cap⟩) hY hfro hI (.inr (by simp)) (fun b' hb' => heap_old w.drew _ b' (S.lt b' hb')) (fun o' j b' _ hj hb' => heap_old w.drew _ b' (blk_lt S hj hb')) ((Chg.drew _ w).trans (Chg.alloc _ _ _)) (by simp; omega) (fun c h => by simp at h) ?_ rfl ?_⟩
          · simp; omega
          · refine ⟨rfl, .inr (Nat.le_refl _), _, own_new w.drew _ e, ?_, hcat⟩
            simp only [Array.size_append, size_zeroCells, hs1, hns, hos]
            rw [← Nat.add_mul, ← Nat.add_mul]; exact Nat.mul_le_mul_right _ (by omega)
      · cases H
  · cases H
end
end
section
open Go
section
variable {P : Program} {C : Ctx} {γ : Gh} {w : World} {a : Act} {sl : SL} {ob : OB}
theorem s2b_ok (S : St C γ w a.tmps sl ob) {src dst e : TypeId} {d : Nat} {x : Value} {xv : PV} {r : Up} (hs : P.underlying src = some .string) (hd' : P.underlying dst = some (.slice e)) (he : P.underlying e = some (.int .u8)) (hx : RV C.fid γ w.heap x xv) (H : s2b ob d xv = some r) :
    ∃ (v : Value) (w' : World) (γ' : Gh), (convert src dst x).run P w = .ok v w' ∧ RV C.fid γ' w'.heap v r.1 ∧ St C γ' w' a.tmps sl (r.2 ++ ob) := by
  unfold s2b at H
  split at H
  · rename_i l
    obtain ⟨hd, rfl⟩ := newX_ok H
    obtain ⟨s, rfl, hsl⟩ := RV_s.1 hx
    have hlen : l.length = s.size := by rw [← hsl, Array.length_toList]; rfl
    have hge : s.size ≤ grownCap w s.size 0 e := grownCap_ge w s.size 0 e
    have hrun := run_bytes_of_string (P := P) w src dst e s hs hd' he
    have hcs : (bytesRow s (grownCap w s.size 0 e)).size = grownCap w s.size 0 e := by
      have : s.data.size = s.size := rfl
      simp only [bytesRow, Array.size_append, Array.size_map, Array.size_replicate, this]; omega
    have hown : ownAt (w.drew.alloc (.cells (bytesRow s (grownCap w s.size 0 e)) e ((bytesRow s (grownCap w s.size 0 e)).size, (bytesRow s (grownCap w s.size 0 e)).size + 1))).heap w.heap.size (bytesRow s (grownCap w s.size 0 e)) :=
      ⟨e, _, heap_new w.drew _, .inr (Nat.le_refl _)⟩
    have hE : PEls w.heap (γ.q true) (bytesRow s (grownCap w s.size 0 e)) 1 0 (l.map fun c => [PV.i .u8 c.toNat]) := PEls_of fun i x hx => by
      rw [List.getElem?_map] at hx
      obtain ⟨c, hc, rfl⟩ := Option.map_eq_some_iff.1 hx
      refine ⟨rfl, ?_⟩
      simp only [PCells, PAt, and_true, Nat.mul_one, Nat.zero_add, bytesRow]
      have hi : i < s.data.size := by
        have := (List.getElem?_eq_some_iff.1 hc).1
        rw [hlen] at this; exact this
      rw [Array.getElem?_append_left (by simpa using hi), Array.getElem?_map]
      rw [← hsl, Array.getElem?_toList] at hc
      rw [hc]; rfl
    have := S.new hd hown (fun i hi => heap_old w.drew _ i hi) ((Chg.drew _ w).trans (Chg.alloc _ _ _)) (x := row (l.map fun (c : UInt8) => [PV.i .u8 c.toNat]) 1 true) (i := ⟨0, some w.heap.size, 1, grownCap w s.size 0 e⟩) rfl rfl (fun c h => by simp [row] at h)
      (by simp only [row, List.length_map]; omega) rfl (by simp only [Nat.mul_one]; omega) (.inl ⟨rfl, hE⟩)
    exact ⟨_, _, _, hrun, RV_sl.2 ⟨_, Gh.set_mu .., Nat.le_refl _, _, _, by rw [hlen], fun _ => ⟨by simp, by omega, fun _ => ⟨w.heap.size, rfl, by simp⟩⟩⟩, this.2⟩
  · cases H
theorem scalEls_map : ∀ {ys : List (List PV)}, scalEls ys = true → ∃ vs : List PV, ys = vs.map (fun v => [v]) ∧ ∀ v ∈ vs, scal v = true
  | [], _ => ⟨[], rfl, fun _ h => by cases h⟩
  | [v] :: r, H => by
    simp only [scalEls, Bool.and_eq_true] at H
    obtain ⟨vs, e, h⟩ := scalEls_map H.2
    exact ⟨v :: vs, by rw [e]; rfl, fun u hu => by rcases List.mem_cons.1 hu with rfl | hu; exact H.1; exact h u hu⟩
theorem flatten_one (vs : List PV) : (vs.map (fun v => [v])).flatten = vs := by
  induction vs with
  | nil => rfl
  | cons v r ih => simp only [List.map_cons, List.flatten_cons, ih]; rfl
theorem PAt_scal {h : Array Obj} {q : Nat → Prop} {cs : Array Value} {off : Nat} {v : PV} (hs : scal v = true) (H : PAt h q cs off v) : ∃ u, cs[off]? = some u ∧ scalR v u := by
  cases v <;> simp only [scal, Bool.false_eq_true] at hs <;> simp only [PAt] at H
  · exact ⟨_, H, rfl⟩
  · exact ⟨_, H, rfl⟩
  · obtain ⟨s, e, h⟩ := H; exact ⟨_, e, s, rfl, h⟩
theorem cpX_ok (S : St C γ w a.tmps sl ob) {at' : Array TypeId} {ty t e : TypeId} {x y : Value} {xv : PV} {gy : Bool} {ys : List (List PV)} {r : Up} (h0 : at'[0]? = some t) (ht : P.underlying t = some (.slice e)) (hk : known P e = true) (hz0 : 0 < P.cellsOf e)
    (hx : RV C.fid γ w.heap x xv) (hy : SrcR γ w.heap y gy ys) (H : cpX ob (P.cellsOf e) gy ys xv = some r) :
    ∃ (v : Value) (w' : World) (γ' : Gh), (Builtin.copy_ at' ty #[x, y]).run P w = .ok v w' ∧ RV C.fid γ' w'.heap v r.1 ∧ St C γ' w' a.tmps sl (r.2 ++ ob) := by
  obtain ⟨d, hd⟩ := known_some hk
  have hrun : ∀ {base : Option Addr} {n c m : Nat} {new : Array Value} {w' : World}, (Builtin.lenOf y).run P w = .ok m w → (Builtin.firstCells (P.cellsOf e) (Nat.min m n) y).run P w = .ok new w → (∀ ad, base = some ad → (storeCells ad new.toList).run P w = .ok () w') → (base = none → w' = w) →
      (Builtin.copy_ at' ty #[.slice base n c, y]).run P w = .ok (goInt (Nat.min m n : Nat)) w' := by
    intro base n c m new w' hm hnew hst hnone
    cases base with
    | none => have := hnone rfl; subst this; simp [Builtin.copy_, h0, run_underlying' ht, run_sizeOf' hd, hm, hnew]
    | some ad => simp [Builtin.copy_, h0, run_underlying' ht, run_sizeOf' hd, hm, hnew, hst ad rfl]
  unfold cpX at H
  split at H
  · injection H with H; subst H
    obtain ⟨ad, rfl, _⟩ := RV_e.1 hx
    have hl : ∃ m, (Builtin.lenOf y).run P w = .ok m w ∧ (Builtin.firstCells (P.cellsOf e) 0 y).run P w = .ok #[] w := by
      rcases hy with ⟨b, c, rfl, _, _⟩ | ⟨s, rfl, _⟩
      · exact ⟨_, by simp [Builtin.lenOf]; rfl, by cases b <;> simp [Builtin.firstCells, loadCells, loadCellsFrom]⟩
      · exact ⟨_, by simp [Builtin.lenOf]; rfl, by simp [Builtin.firstCells]⟩
    obtain ⟨m, hm, hf⟩ := hl
    have h1 : Nat.min m 0 = 0 := Nat.min_eq_right (Nat.zero_le _)
    exact ⟨_, w, γ, hrun (base := ad) (n := 0) (c := 0) (w' := w) hm (by rw [h1]; exact hf) (fun _ _ => by simp [storeCells]) (fun _ => rfl), by rw [h1]; exact RV_i.2 rfl, S⟩
  · rename_i o ver lo n
    cases hY : getO ob o with
    | none => simp [hY, cpyO] at H
    | some Y =>
      simp only [hY, cpyO] at H
      split at H
      · rename_i hc
        obtain ⟨hver, hw, hpu, hfro, hn, hW⟩ := hc
        injection H with H; subst H
        obtain ⟨I, hI, hv, base, c, rfl, hh⟩ := RV_sl.1 hx
        obtain ⟨I', hI', q1, q2, q3, q4⟩ := S.obj o Y hY
        rw [hI] at hI'; injection hI' with hI'; subst hI'
        obtain ⟨k1, k2, k3⟩ := hh (by omega)
        obtain ⟨hl, hf⟩ := src_ok (P := P) (w := w) hz0 hy hW
        obtain ⟨new, hnew, hns, hnE⟩ := hf (min ys.length n) (Nat.min_le_left _ _)
        have hother : ∀ {b : Nat} {w' : World}, I.blk = some b → Wr w w' b → ∀ o' j b', o' ≠ o → γ.mu o' = some j → j.blk = some b' → w'.heap[b']? = w.heap[b']? := by
          intro b w' hb hwr o' j b' ho hj hb'
          exact hwr.other b' (fun e => ho (by subst e; exact S.inj o' o j I b' hj hI hb' hb))
        have hfl : flatEls ys = true → flatEls (ys.take (min ys.length n)) = true := by
          have key : ∀ (l : List (List PV)) (k : Nat), flatEls l = true → flatEls (l.take k) = true := by
            intro l
            induction l with
            | nil => intro k _; simp [flatEls]
            | cons x r ih =>
              intro k h
              cases k with
              | zero => rfl
              | succ k => simp only [flatEls, Bool.and_eq_true] at h; simp only [List.take_succ_cons, flatEls, Bool.and_eq_true]; exact ⟨h.1, ih k h.2⟩
          exact key ys _
        have hgE : PEls w.heap (γ.q (Y.g && (gy || flatEls ys))) new (P.cellsOf e) 0 (ys.take (min ys.length n)) := by
          cases hfl' : flatEls ys with
          | true => exact PEls_flat (hfl hfl') hnE
          | false => exact PEls_mono (fun b h => ⟨⟨h.1, fun e => h.2 (by simp at e; exact e.2)⟩, rfl⟩) _ _ _ _ hnE
        have hyl : (ys.take (min ys.length n)).length = min ys.length n := by simp
        rcases Nat.eq_zero_or_pos (min ys.length n) with hm | hm
        · have hnew0 : new = #[] := by
            apply Array.eq_empty_of_size_eq_zero; rw [hns, hm]; simp
          subst hnew0
          have h2 := hrun (base := base) (n := n) (c := c) (w' := w) hl hnew (fun _ _ => by simp [storeCells]) (fun _ => rfl)
          refine ⟨_, w, _, h2, RV_i.2 rfl, S.rep (i' := I) hY hfro hI (.inl rfl) (fun _ _ => rfl) (fun _ _ _ _ _ _ => rfl) (Chg.refl _ _) q1 q2 ?_ hpu ?_⟩
          · simp only [hm, List.take_zero, List.nil_append, Nat.add_zero, List.take_append_drop]; exact q3
          · cases hbk : I.blk with
            | none => simpa only [hbk] using q4
            | some b =>
              simp only [hbk] at q4 ⊢
              obtain ⟨p1, cs, p2, p3, p4⟩ := q4
              obtain ⟨hmp, p2⟩ := p2.cells (by first | exact .inr (by assumption) | exact .inl (fun e0 => by simp_all) | exact .inl (fun e0 => by rw [e0] at *; simp at *; omega))
              refine ⟨p1, .inl trivial, cs, p2, p3, ?_⟩
              rcases p4 with ⟨_, p4⟩ | ⟨hp, _⟩
              · simp only [hm, List.take_zero, List.nil_append, Nat.add_zero, List.take_append_drop]
                exact PEls_mono (fun b h => ⟨⟨h.1, fun e => h.2 (by simp at e; exact e.1)⟩, rfl⟩) _ _ _ _ p4
              · rw [hpu] at hp; cases hp
        · obtain ⟨b, hbk, rfl⟩ := k3 (by omega)
          simp only [hbk] at q4
          obtain ⟨p1, cs, pown, p3, p4⟩ := q4
          obtain ⟨hmp, tt, fr, p2, p2'⟩ := pown.cells (by first | exact .inr (by assumption) | exact .inl (fun e0 => by simp_all) | exact .inl (fun e0 => by rw [e0] at *; simp at *; omega))
          have hIw : I.w = P.cellsOf e := by rw [← p1, hw]
          have p4 : PEls w.heap (γ.q Y.g) cs I.w 0 Y.els := by
            rcases p4 with ⟨_, p4⟩ | ⟨hp, _⟩
            · exact p4
            · rw [hpu] at hp; cases hp
          rw [hIw] at p3 p4
          have hmul : (lo + min ys.length n) * P.cellsOf e ≤ cs.size := Nat.le_trans (Nat.mul_le_mul_right _ (by omega)) p3
          rw [Nat.add_mul] at hmul
          have hnl : new.toList.length = min ys.length n * P.cellsOf e := by rw [Array.length_toList, hns]
          obtain ⟨w', cs', g1, g2, g3, g4, g5⟩ := run_storeCells_own (P := P) b (lo * I.w) tt fr new.toList 0 cs w p2 p2' (by rw [hnl, hIw]; omega) (mem_one (by rw [hns, hyl]) hnE)
          have h2 := hrun (base := some ⟨b, lo * I.w, none⟩) (n := n) (c := c) (w' := w') hl hnew (fun ad' e' => by injection e' with e'; subst e'; exact g1) (fun h => by cases h)
          have hsame : ∀ k v, k < lo * P.cellsOf e ∨ (lo + (ys.take (min ys.length n)).length) * P.cellsOf e ≤ k → cs[k]? = some v → cs'[k]? = some v := by
            intro k v hk hv'
            rw [hyl, Nat.add_mul] at hk
            rw [g5, if_neg (by rw [hnl, hIw]; omega)]; exact hv'
          have hput : ∀ k v, k < (ys.take (min ys.length n)).length * P.cellsOf e → new[k]? = some v → cs'[lo * P.cellsOf e + k]? = some v := by
            intro k v hk hv'
            rw [hyl] at hk
            rw [g5, if_pos (by rw [hnl, hIw]; omega), show lo * P.cellsOf e + k - (lo * I.w + 0) = k by rw [hIw]; omega, Array.getElem?_toList]; exact hv'
          have e1 : PEls w.heap (γ.q (Y.g && (gy || flatEls ys))) cs (P.cellsOf e) 0 Y.els := PEls_mono (fun b h => ⟨⟨h.1, fun e => h.2 (by simp at e; exact e.1)⟩, rfl⟩) _ _ _ _ p4
          have hput' := row_put e1 hgE (by rw [hyl]; omega) hsame hput
          rw [hyl] at hput'
          refine ⟨_, w', _, h2, RV_i.2 rfl, S.rep (i' := I) hY hfro hI (.inl rfl) (fun b' hb' => g4.other b' (fun e => S.unf o Y I b hY hfro hI hbk (e ▸ hb'))) (hother hbk g4) (g4.chg (S.own o I b hI hbk)) q1 q2 ?_ hpu ?_⟩
          · simp; omega
          · simp only [hbk]
            exact ⟨p1, .inl trivial, cs', ⟨tt, fr, g2, by rw [g3]; exact p2'⟩, by rw [g3, hIw]; exact p3, by rw [hIw]; exact hput'⟩
      · cases H
  · rename_i o off lo n
    split at H
    · rename_i hw1
      cases hY : getO ob o with
      | none => simp [hY, cpyB] at H
      | some Y =>
        simp only [hY, cpyB] at H
        split at H
        · rename_i hc
          obtain ⟨hver, hfro, hpu, hsc⟩ := hc
          unfold cpyE at H
          split at H
          · rename_i el hel
            unfold cpyD at H
            split at H
            · rename_i m xs cc pre hdr htk
              split at H
              · rename_i hlen
                injection H with H; subst H
                obtain ⟨e1, e2⟩ := takeW_dropW htk hdr
                obtain ⟨I, hI, ad, c, rfl, hn, hh⟩ := RV_bs.1 hx
                obtain ⟨I', hI', q1, q2, q3, q4⟩ := S.obj o Y hY
                rw [hI] at hI'; injection hI' with hI'; subst hI'
                have hW : allW (P.cellsOf e) ys = true := by
                  rw [hw1]
                  have key : ∀ l : List (List PV), scalEls l = true → allW 1 l = true := by
                    intro l
                    induction l with
                    | nil => intro _; rfl
                    | cons x r ih =>
                      intro h
                      match x, h with
                      | [v], h =>
                        simp only [scalEls, Bool.and_eq_true] at h
                        simp only [allW, wds, Bool.and_eq_true, beq_iff_eq]
                        exact ⟨by cases v <;> simp_all [scal, wd], ih h.2⟩
                  exact key ys hsc
                obtain ⟨hl, hf⟩ := src_ok (P := P) (w := w) hz0 hy hW
                obtain ⟨new, hnew, hns, hnE⟩ := hf (min ys.length n) (Nat.min_le_left _ _)
                rw [hw1, Nat.mul_one] at hns
                obtain ⟨vs, rfl, hvs⟩ := scalEls_map hsc
                rw [List.length_map] at hl hnew hns hnE
                have hk : min vs.length n ≤ n := Nat.min_le_right _ _
                have hbk : ∃ b, I.blk = some b := by
                  cases hb : I.blk with
                  | none => simp only [hb] at q4; rw [hel] at q3; simp at q3; omega
                  | some b => exact ⟨b, rfl⟩
                obtain ⟨b, hbk⟩ := hbk
                simp only [hbk] at q4
                obtain ⟨p1, cs, pown, p3, p4⟩ := q4
                obtain ⟨hmp, tt, fr, p2, p2'⟩ := pown.cells (by first | exact .inr (by assumption) | exact .inl (fun e0 => by simp_all) | exact .inl (fun e0 => by rw [e0] at *; simp at *; omega))
                rcases p4 with ⟨hp, _⟩ | ⟨_, p4⟩
                · rw [hpu] at hp; cases hp
                · rw [hel] at p4
                  simp only [REls, and_true] at p4
                  obtain ⟨r1, r2⟩ := p4
                  have hE := r2
                  rw [e1, RCells_app, e2] at hE
                  simp only [RCells, RAt, Nat.zero_add] at hE
                  obtain ⟨t1, ⟨_, t2, t3⟩, t4⟩ := hE
                  rw [e1, wds_app, e2] at r1
                  simp only [wds, wd] at r1
                  have htot : I.w ≤ cs.size := by
                    have : 1 ≤ I.tot := by rw [hel] at q3; simpa using q3
                    have := Nat.mul_le_mul_right I.w this
                    omega
                  have hnl : new.toList.length = min vs.length n := by rw [Array.length_toList, hns]
                  have hnv : ∀ (i : Nat) v, i < min vs.length n → vs[i]? = some v → ∃ u, new[i]? = some u ∧ scalR v u := by
                    intro i v hi hv
                    have := PEls_get hnE i [v] (by rw [List.getElem?_take_of_lt hi, List.getElem?_map, hv]; rfl)
                    simp only [PCells, and_true, hw1, Nat.mul_one, Nat.zero_add] at this
                    exact PAt_scal (hvs v (List.mem_of_getElem? hv)) this.2
                  have hone : ∀ u ∈ new.toList, u.oneCell' = true := mem_one (w' := P.cellsOf e) (by rw [hns, hw1]; simp) hnE
                  obtain ⟨w', cs', g1, g2, g3, g4, g5⟩ := run_storeCells_own (P := P) b (off + lo) tt fr new.toList 0 cs w p2 p2' (by rw [hnl]; omega) hone
                  have h2 := hrun (base := some ad) (n := n) (c := c) (w' := w') hl hnew (fun ad' e' => by
                    injection e' with e'; subst e'
                    rcases Nat.eq_zero_or_pos c with hc0 | hc0
                    · have h0 : new = #[] := by apply Array.eq_empty_of_size_eq_zero; omega
                      subst h0
                      simp only [storeCells] at g1 ⊢
                      exact g1
                    · obtain ⟨b', hb', rfl⟩ := hh (by omega) hc0
                      rw [hbk] at hb'; injection hb' with hb'; subst hb'
                      exact g1) (fun h => by cases h)
                  have hsame : ∀ k v, k < off + lo ∨ off + lo + min vs.length n ≤ k → cs[k]? = some v → cs'[k]? = some v := by
                    intro k v hk' hv'
                    rw [g5, if_neg (by rw [hnl]; omega)]; exact hv'
                  have hput : ∀ k v, k < min vs.length n → new[k]? = some v → cs'[off + lo + k]? = some v := by
                    intro k v hk' hv'
                    rw [g5, if_pos (by rw [hnl]; omega), show off + lo + k - (off + lo + 0) = k by omega, Array.getElem?_toList]; exact hv'
                  have hfl : ((vs.map (fun v => [v])).take (min (vs.map (fun v => [v])).length n)).flatten = vs.take (min vs.length n) := by
                    rw [List.length_map, ← List.map_take, flatten_one]
                  rw [hfl]
                  rw [List.length_map]
                  have hblob : blobR cs' off (xs.take lo ++ (vs.take (min vs.length n) ++ xs.drop (lo + min vs.length n))) := by
                    intro i v hi
                    have hl1 : (xs.take lo).length = lo := by simp; omega
                    have hl2 : (vs.take (min vs.length n)).length = min vs.length n := by simp
                    rcases Nat.lt_or_ge i lo with h1 | h1
                    · rw [List.getElem?_append_left (by omega), List.getElem?_take_of_lt h1] at hi
                      obtain ⟨u, hu, hs⟩ := t3 i v hi
                      exact ⟨u, hsame _ u (.inl (by omega)) hu, hs⟩
                    · rw [List.getElem?_append_right (by omega), hl1] at hi
                      rcases Nat.lt_or_ge (i - lo) (min vs.length n) with h3 | h3
                      · rw [List.getElem?_append_left (by omega), List.getElem?_take_of_lt h3] at hi
                        obtain ⟨u, hu, hs⟩ := hnv _ v h3 hi
                        refine ⟨u, ?_, hs⟩
                        have := hput _ u h3 hu
                        rwa [show off + lo + (i - lo) = off + i by omega] at this
                      · rw [List.getElem?_append_right (by omega), hl2, List.getElem?_drop] at hi
                        obtain ⟨u, hu, hs⟩ := t3 _ v hi
                        rw [show lo + min vs.length n + (i - lo - min vs.length n) = i by omega] at hu
                        exact ⟨u, hsame _ u (.inr (by omega)) hu, hs⟩
                  have hnew' : RCells C.fid γ w.heap cs' 0 (pre ++ (.blob m (xs.take lo ++ (vs.take (min vs.length n) ++ xs.drop (lo + min vs.length n))) :: cc)) := by
                    rw [RCells_app, e2]
                    refine ⟨RCells_at (fun j u hj hu => hsame _ u (.inl (by omega)) hu) t1, ?_⟩
                    simp only [RCells, RAt, Nat.zero_add]
                    refine ⟨⟨rfl, by simp; omega, hblob⟩, RCells_at (fun j u hj hu => hsame _ u (.inr (by simp only [wd]; omega)) hu) t4⟩
                  refine ⟨_, w', γ, h2, RV_i.2 rfl, S.upd (x' := { Y with els := [pre ++ (.blob m (xs.take lo ++ (vs.take (min vs.length n) ++ xs.drop (lo + min vs.length n))) :: cc)] }) hY hfro hI hbk g4 ⟨tt, fr, g2, by rw [g3]; exact p2'⟩ (by rw [g3]; exact p3) rfl rfl (by rw [hel]; rfl) rfl (.inr ⟨hpu, ?_⟩)⟩
                  simp only [REls, and_true]
                  exact ⟨by rw [wds_app, e2]; simp only [wds, wd]; omega, hnew'⟩
              · cases H
            · cases H
          · cases H
        · cases H
    · cases H
  · cases H
theorem REls_of_cells {fid : Nat → Nat} {γ : Gh} {h : Array Obj} {w' : Nat} (place : Nat → Option (Nat × Nat)) (hpl : ∀ i, place i = some (i * w', w')) : ∀ (vs : List PV) (xs : List Value) (k : Nat) (arr : Array Value), vs.length = xs.length →
    (∀ (i : Nat) v x, vs[i]? = some v → xs[i]? = some x → RV fid γ h x v) → stvs vs = true → allW w' (cellsL vs) = true → (k + vs.length) * w' ≤ arr.size →
    ∃ arr', Instr.fill place arr ((xs.zipIdx k).map fun y => (y.2, y.1)) = some arr' ∧ arr'.size = arr.size ∧ (∀ j, j < k * w' → arr'[j]? = arr[j]?) ∧ REls fid γ h arr' w' (k * w') (cellsL vs)
  | [], [], k, arr, _, _, _, _, _ => ⟨arr, rfl, rfl, fun _ _ => rfl, by simp only [cellsL, REls]⟩
  | v :: vs, x :: xs, k, arr, hl, hr, hst, hW, hs => by
    simp only [stvs, Bool.and_eq_true] at hst
    simp only [cellsL, allW, Bool.and_eq_true, beq_iff_eq] at hW
    have hxv := hr 0 v x rfl rfl
    obtain ⟨h1, h2⟩ := cells_ok hxv hst.1
    simp only [List.length_cons] at hs
    have hmul : k * w' + w' ≤ arr.size := by
      have := Nat.mul_le_mul_right w' (show k + 1 ≤ k + (vs.length + 1) by omega)
      rw [Nat.succ_mul] at this; omega
    have hxl : x.cells.toList.length = w' := by rw [Array.length_toList, h1, hW.1]
    have hget := setCells_get x.cells.toList (k * w') 0 arr (by rw [hxl]; omega)
    obtain ⟨arr', g1, g2, g3, g4⟩ := REls_of_cells place hpl vs xs (k + 1) (x.cells.toList.zipIdx.foldl (fun cs (x : Value × Nat) => cs.setIfInBounds (k * w' + x.2) x.1) arr) (by simpa using hl) (fun i v x hv hx => hr (i + 1) v x (by simpa using hv) (by simpa using hx)) hst.2 hW.2 (by rw [setCells_size]; rw [show k + 1 + vs.length = k + (vs.length + 1) by omega]; exact hs)
    refine ⟨arr', ?_, by rw [g2, setCells_size], fun j hj => ?_, ?_⟩
    · simp only [List.zipIdx_cons, List.map_cons]
      rw [Instr.fill]
      simp only [hpl]
      rw [if_neg (by simp only [Bool.or_eq_true, decide_eq_true_eq, not_or, ne_eq, Decidable.not_not]; omega)]
      rw [← Array.foldl_toList, Array.toList_zipIdx]
      exact g1
    · rw [g3 j (by rw [Nat.succ_mul]; omega), hget, if_neg (by omega)]
    · simp only [cellsL, REls]
      refine ⟨hW.1, RCells_at (fun i y hi hy => ?_) h2, by rw [← Nat.succ_mul]; exact g4⟩
      rw [hW.1] at hi
      rw [Nat.zero_add, ← Array.getElem?_toList] at hy
      rw [g3 _ (by rw [Nat.succ_mul]; omega), hget, if_pos (by rw [hxl]; omega), show k * w' + i - (k * w' + 0) = i by omega]
      exact hy
  | [], _ :: _, _, _, hl, _, _, _, _ => by simp at hl
  | _ :: _, [], _, _, hl, _, _, _, _ => by simp at hl
theorem pure_R {γ : Gh} {h : Array Obj} {fid : Nat → Nat} {g : Bool} {cs : Array Value} : ∀ {l : List PV} {off : Nat}, isPures l = true → (g = true → noExts l = true) → RCells fid γ h cs off l → PCells h (γ.q g) cs off l
  | [], _, _, _, _ => by simp only [PCells]
  | v :: r, off, hp, hn, H => by
    simp only [isPures, Bool.and_eq_true] at hp
    simp only [RCells] at H
    simp only [PCells]
    have hn' : g = true → noExt v = true ∧ noExts r = true := fun e => by have := hn e; simpa only [noExts, Bool.and_eq_true] using this
    refine ⟨?_, pure_R hp.2 (fun e => (hn' e).2) H.2⟩
    have h1 := H.1.2
    cases v <;> simp only [isPure, Bool.false_eq_true, false_and] at hp <;> simp only [RAt] at h1 <;> try (simpa only [PAt] using h1; done)
    rename_i g' xs
    refine PAt_mono (fun b hb => ⟨⟨hb.1, fun e => hb.2 ?_⟩, rfl⟩) _ _ _ h1
    have := (hn' e).1
    simpa only [noExt] using this
theorem pure_E {γ : Gh} {h : Array Obj} {fid : Nat → Nat} {g : Bool} {cs : Array Value} {w' : Nat} : ∀ {l : List (List PV)} {off : Nat}, isPureEls l = true → (g = true → noExtEls l = true) → REls fid γ h cs w' off l → PEls h (γ.q g) cs w' off l
  | [], _, _, _, _ => by simp only [PEls]
  | x :: r, off, hp, hn, H => by
    simp only [isPureEls, Bool.and_eq_true] at hp
    simp only [REls] at H
    simp only [PEls]
    have hn' : g = true → noExts x = true ∧ noExtEls r = true := fun e => by have := hn e; simpa only [noExtEls, Bool.and_eq_true] using this
    exact ⟨H.1, pure_R hp.1 (fun e => (hn' e).1) H.2.1, pure_E hp.2 (fun e => (hn' e).2) H.2.2⟩
end
end
end Go.Proofs.Ytnkapponcbgbhaa
