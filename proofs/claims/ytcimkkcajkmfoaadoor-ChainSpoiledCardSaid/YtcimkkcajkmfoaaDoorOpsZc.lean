/-
  Slices out of parts; clear; append of zeros.
-/
import Derived.Test.YtcimkkcajkmfoaaDoorOpsZb
set_option linter.all false
namespace Go.Proofs.YtcimkkcajkmfoaaDoor
open Go

section
variable {P : Program} {E : Env} {C : Ctx} {γ : Gh} {w : World} {a : Act} {sl : SL} {ob : OB}
theorem cellsL_len : ∀ l, (cellsL l).length = l.length
  | [] => rfl
  | v :: r => by simp only [cellsL, List.length_cons, cellsL_len r]
theorem bldS_ok (hE : E.fid = C.fid) (hG : E.glob = C.glob) (S : St C γ w a.tmps sl ob) {t e : TypeId} {d n : Nat} {z : List PV} {parts : Array (Nat × Operand)} {r : Up} (ht : P.underlying t = some (.slice e)) (hz : zeroT P e = some z)
    (hp : parts.toList.map (·.1) = List.range n) (hn : n < 65536) (hc0 : 0 < P.cellsOf e) (hsz : P.cellsOf e ≤ 256) (H : bldS ob d (P.cellsOf e) (evs E sl (parts.toList.map (·.2))) = some r) :
    ∃ (v : Value) (w' : World) (γ' : Gh), (Instr.buildSlice t n (parts.map fun y => (y.1, a.eval y.2))).run P w = .ok v w' ∧ RV C.fid γ' w'.heap v r.1 ∧ St C γ' w' a.tmps sl (r.2 ++ ob) := by
  obtain ⟨i, zv, hi, hzv, hs1, hs2, hby, _, _⟩ := zeroT_R (fid := C.fid) (γ := γ) (h := w.heap) hz
  have hcell : P.cellsOf e = wds z := by simp [Program.cellsOf, hi, hs2]
  have hpl : (evs E sl (parts.toList.map (·.2))).length = n := by
    rw [evs_len, List.length_map]
    have := congrArg List.length hp
    simpa using this
  -- the model's cells
  have hbig : ¬ (n * wds z > 2 ^ 24) := by
    have := Nat.mul_le_mul (show n ≤ 65536 by omega) (show wds z ≤ 256 by omega)
    omega
  let base : Array Value := (Array.range (n * wds z)).map ((if n * wds z = 0 then #[] else zv.cells)[· % (if n * wds z = 0 then #[] else zv.cells).size]!)
  have hbs : base.size = n * wds z := by simp [base]
  have hparts : (parts.map fun y => (y.1, a.eval y.2)).toList = ((parts.toList.map fun y => a.eval y.2).zipIdx 0).map fun y => (y.2, y.1) := by
    rw [Array.toList_map]
    apply List.ext_getElem?
    intro j
    rw [List.getElem?_map, List.getElem?_map, List.getElem?_zipIdx, List.getElem?_map]
    have h1 := congrArg (fun l => l[j]?) hp
    simp only [List.getElem?_map] at h1
    cases hj : parts.toList[j]? with
    | none => simp
    | some y =>
      rw [hj] at h1
      simp only [Option.map_some] at h1
      have h2 : j < n := by
        have h3 := (List.getElem?_eq_some_iff.1 h1.symm).1
        simpa using h3
      rw [List.getElem?_range h2] at h1
      injection h1 with h1
      simp [h1]
  have hrun : ∀ arr, Instr.fill (fun i => some (i * wds z, wds z)) base (parts.map fun y => (y.1, a.eval y.2)).toList = some arr → (Instr.buildSlice t n (parts.map fun y => (y.1, a.eval y.2))).run P w = .ok (.slice (some ⟨w.heap.size, 0, none⟩) n n) (w.alloc (.cells arr e)) := by
    intro arr harr
    have hsz : (sizeOf e).run P w = .ok (wds z) w := by simp [sizeOf, typeInfo, hi, hs2]
    unfold Instr.buildSlice
    simp only [Sem.run_bind, run_underlying' ht, Result.andThen_ok, hsz]
    rw [if_neg hbig]
    simp only [base] at harr
    rw [Array.toList_map] at harr
    by_cases hm0 : n * wds z = 0
    · simp only [hm0, if_true] at harr
      simp only [hm0, if_true, Sem.run_pure, Result.andThen_ok, Sem.run_bind, pure_bind, Array.toList_map, harr, run_newRow']
    · simp only [if_neg hm0] at harr
      simp only [if_neg hm0, Sem.run_pure, Result.andThen_ok, Sem.run_bind, pure_bind, Array.toList_map, run_zeroValue' hi hzv, harr, run_newRow']
  cases hv : evs E sl (parts.toList.map (·.2)) with
  | nil =>
    rw [hv] at H hpl
    simp only [bldS, Option.some.injEq] at H; subst H
    simp only [List.length_nil] at hpl
    subst hpl
    have hnil : (parts.map fun y => (y.1, a.eval y.2)).toList = [] := by
      have : parts.toList = [] := by simpa using hp
      rw [Array.toList_map, this]; rfl
    have h1 := hrun base (by rw [hnil]; rfl)
    have hq : ∀ g b, γ.q g b → γ.q g b ∧ (w.alloc (.cells base e)).heap[b]? = w.heap[b]? := fun g b h => ⟨h, heap_old w _ b (S.lt b h.1)⟩
    refine ⟨_, _, γ, h1, RV_e.2 ⟨_, rfl, by simp⟩, ?_⟩
    exact (S.change (γ' := γ) (u := []) (fun _ _ => rfl) (fun o i hi => ⟨i, hi, .inl rfl⟩) (fun b h => ⟨h, heap_old w _ b (S.lt b h)⟩) rfl (fun o i b _ hi hb => ⟨heap_old w _ b (blk_lt S hi hb), id⟩) (fun o x h => by simp [getO] at h) (fun b h => by have := S.lt b h; simp; omega) (fun b h => .inl h) (Chg.alloc _ _ _)).2.2
  | cons v0 vr =>
    rw [hv] at H hpl
    simp only [bldS] at H
    split at H
    · rename_i hc
      obtain ⟨hst, hW⟩ := hc
      obtain ⟨hd, rfl⟩ := newX_ok H
      obtain ⟨arr, g1, g2, _, g4⟩ := REls_of_cells (fid := C.fid) (γ := γ) (h := w.heap) (fun i => some (i * wds z, wds z)) (fun _ => rfl) (v0 :: vr) (parts.toList.map fun y => a.eval y.2) 0 base
        (by rw [← hv, evs_len]; simp) (fun j v x hj hx => by
          rw [← hv] at hj
          have hR := evs_ok hE hG S (parts.toList.map (·.2))
          obtain ⟨y, hy, hyv⟩ := RL_get j v hR hj
          simp only [List.map_map, Nat.zero_add, List.getElem?_toArray] at hy
          rw [show (a.eval ∘ fun x : Nat × Operand => x.2) = fun y => a.eval y.2 from rfl, hx] at hy
          injection hy with hy; subst hy; exact hyv) hst (by rw [← hcell]; exact hW) (by rw [Nat.zero_add, hbs, ← hpl]; exact Nat.le_refl _)
      rw [Nat.zero_mul] at g4
      have h1 := hrun arr (by rw [hparts]; exact g1)
      let x' : Obj' := { els := cellsL (v0 :: vr), w := P.cellsOf e, pu := isPureEls (cellsL (v0 :: vr)), g := noExtEls (cellsL (v0 :: vr)) || !isPureEls (cellsL (v0 :: vr)), cap := some (v0 :: vr).length, ver := 0, fro := false }
      have hels : (x'.pu = true ∧ PEls w.heap (γ.q x'.g) arr (wds z) 0 x'.els) ∨ (x'.pu = false ∧ REls C.fid γ w.heap arr (wds z) 0 x'.els) := by
        cases hpu : isPureEls (cellsL (v0 :: vr)) with
        | true => exact .inl ⟨hpu, pure_E hpu (fun h => by simpa [x', hpu] using h) g4⟩
        | false => exact .inr ⟨hpu, g4⟩
      have hcap : ∀ c, x'.cap = some c → n = c := fun c h => by
        have h' : (v0 :: vr).length = c := by simpa [x'] using h
        rw [← h', hpl]
      have := S.new hd (own_new w arr e) (heap_old w _) (Chg.alloc _ w _) (x := x') (i := ⟨0, some w.heap.size, wds z, n⟩) rfl rfl hcap (by simp only [x', cellsL_len]; omega) hcell (by simp only; rw [g2, hbs]; exact Nat.le_refl _) hels
      refine ⟨_, _, _, h1, RV_sl.2 ⟨_, Gh.set_mu .., Nat.le_refl _, some ⟨w.heap.size, 0, none⟩, n, by rw [hpl], fun _ => ⟨by simp, by omega, fun _ => ⟨w.heap.size, rfl, by simp⟩⟩⟩, this.2⟩
    · cases H
end
end Go.Proofs.YtcimkkcajkmfoaaDoor
