import Derived.Test.YtnkapponcbgbhaaOpsZa
set_option linter.all false
namespace Go.Proofs.Ytnkapponcbgbhaa
section
open Go
section
variable {P : Program} {E : Env} {C : Ctx} {γ : Gh} {w : World} {a : Act} {sl : SL} {ob : OB}
theorem cellsL_len : ∀ l, (cellsL l).length = l.length
  | [] => rfl
  | v :: r => by simp only [cellsL, List.length_cons, cellsL_len r]
theorem bldS_ok (hE : E.fid = C.fid) (hG : E.glob = C.glob) (S : St C γ w a.tmps sl ob) {t e : TypeId} {d n : Nat} {z : List PV} {parts : Array (Nat × Operand)} {r : Up} (ht : P.underlying t = some (.slice e)) (hz : zeroT P e = some z)
    (hp : parts.toList.map (·.1) = List.range n) (hn : n < 65536) (hc0 : 0 < P.cellsOf e) (hsz : P.cellsOf e ≤ 256) (H : bldS ob d (P.cellsOf e) (evs E sl (parts.toList.map (·.2))) = some r) :
    ∃ (v : Value) (w' : World) (γ' : Gh), (Instr.buildSlice t n (parts.map fun y => (y.1, a.eval y.2))).run P w = .ok v w' ∧ RV C.fid γ' w'.heap v r.1 ∧ St C γ' w' a.tmps sl (r.2 ++ ob) := by
  obtain ⟨i, zv, hi, hzv, hs1, hs2, hby, _, _⟩ := zeroT_R (fid := C.fid) (γ := γ) (h := w.heap) hz
  have hcell : P.cellsOf e = wds z := by simp [Program.cellsOf, hi, hs2]
  have hpl : (evs E sl (parts.toList.map (·.2))).length = n := by
    rw [evs_len, List.length_map]
    have := congrArg List.length hp
    simpa using this
  have hbig : ¬ (n * wds z > 2 ^ 24) := by
    have := Nat.mul_le_mul (show n ≤ 65536 by omega) (show wds z ≤ 256 by omega)
    omega
  let base : Array Value := (Array.range (n * wds z)).map ((if n * wds z = 0 then #[] else zv.cells)[· % (if n * wds z = 0 then #[] else zv.cells).size]!)
  have hbs : base.size = n * wds z := by simp [base]
  have hparts : (parts.map fun y => (y.1, a.eval y.2)).toList = ((parts.toList.map fun y => a.eval y.2).zipIdx 0).map fun y => (y.2, y.1) := by
    rw [Array.toList_map]
    apply List.ext_getElem?
    intro j
    rw [List.getElem?_map, List.getElem?_map, List.getElem?_zipIdx, List.getElem?_map]
    have h1 := congrArg (fun l => l[j]?) hp
    simp only [List.getElem?_map] at h1
    cases hj : parts.toList[j]? with
    | none => simp
    | some y =>
      rw [hj] at h1
      simp only [Option.map_some] at h1
      have h2 : j < n := by
        have h3 := (List.getElem?_eq_some_iff.1 h1.symm).1
        simpa using h3
      rw [List.getElem?_range h2] at h1
      injection h1 with h1
      simp [h1]
  have hrun : ∀ arr, Instr.fill (fun i => some (i * wds z, wds z)) base (parts.map fun y => (y.1, a.eval y.2)).toList = some arr → (Instr.buildSlice t n (parts.map fun y => (y.1, a.eval y.2))).run P w = .ok (.slice (some ⟨w.heap.size, 0, none⟩) n n) (w.alloc (.cells arr e)) := by
    intro arr harr
    have hsz : (sizeOf e).run P w = .ok (wds z) w := by simp [sizeOf, typeInfo, hi, hs2]
    unfold Instr.buildSlice
    simp only [Sem.run_bind, run_underlying' ht, Result.andThen_ok, hsz]
    rw [if_neg hbig]
    simp only [base] at harr
    rw [Array.toList_map] at harr
    by_cases hm0 : n * wds z = 0
    · simp only [hm0, if_true] at harr
      simp only [hm0, if_true, Sem.run_pure, Result.andThen_ok, Sem.run_bind, pure_bind, Array.toList_map, harr, run_newRow']
    · simp only [if_neg hm0] at harr
      simp only [if_neg hm0, Sem.run_pure, Result.andThen_ok, Sem.run_bind, pure_bind, Array.toList_map, run_zeroValue' hi hzv, harr, run_newRow']
  cases hv : evs E sl (parts.toList.map (·.2)) with
  | nil =>
    rw [hv] at H hpl
    simp only [bldS, Option.some.injEq] at H; subst H
    simp only [List.length_nil] at hpl
    subst hpl
    have hnil : (parts.map fun y => (y.1, a.eval y.2)).toList = [] := by
      have : parts.toList = [] := by simpa using hp
      rw [Array.toList_map, this]; rfl
    have h1 := hrun base (by rw [hnil]; rfl)
    have hq : ∀ g b, γ.q g b → γ.q g b ∧ (w.alloc (.cells base e)).heap[b]? = w.heap[b]? := fun g b h => ⟨h, heap_old w _ b (S.lt b h.1)⟩
    refine ⟨_, _, γ, h1, RV_e.2 ⟨_, rfl, by simp⟩, ?_⟩
    exact (S.change (γ' := γ) (u := []) (fun _ _ => rfl) (fun o i hi => ⟨i, hi, .inl rfl⟩) (fun b h => ⟨h, heap_old w _ b (S.lt b h)⟩) rfl (fun o i b _ hi hb => ⟨heap_old w _ b (blk_lt S hi hb), id⟩) (fun o x h => by simp [getO] at h) (fun b h => by have := S.lt b h; simp; omega) (fun b h => .inl h) (Chg.alloc _ _ _)).2.2
  | cons v0 vr =>
    rw [hv] at H hpl
    simp only [bldS] at H
    split at H
    · rename_i hc
      obtain ⟨hst, hW⟩ := hc
      obtain ⟨hd, rfl⟩ := newX_ok H
      obtain ⟨arr, g1, g2, _, g4⟩ := REls_of_cells (fid := C.fid) (γ := γ) (h := w.heap) (fun i => some (i * wds z, wds z)) (fun _ => rfl) (v0 :: vr) (parts.toList.map fun y => a.eval y.2) 0 base
        (by rw [← hv, evs_len]; simp) (fun j v x hj hx => by
          rw [← hv] at hj
          have hR := evs_ok hE hG S (parts.toList.map (·.2))
          obtain ⟨y, hy, hyv⟩ := RL_get j v hR hj
          simp only [List.map_map, Nat.zero_add, List.getElem?_toArray] at hy
          rw [show (a.eval ∘ fun x : Nat × Operand => x.2) = fun y => a.eval y.2 from rfl, hx] at hy
          injection hy with hy; subst hy; exact hyv) hst (by rw [← hcell]; exact hW) (by rw [Nat.zero_add, hbs, ← hpl]; exact Nat.le_refl _)
      rw [Nat.zero_mul] at g4
      have h1 := hrun arr (by rw [hparts]; exact g1)
      let x' : Obj' := { els := cellsL (v0 :: vr), w := P.cellsOf e, pu := isPureEls (cellsL (v0 :: vr)), g := noExtEls (cellsL (v0 :: vr)) || !isPureEls (cellsL (v0 :: vr)), cap := some (v0 :: vr).length, ver := 0, fro := false }
      have hels : (x'.pu = true ∧ PEls w.heap (γ.q x'.g) arr (wds z) 0 x'.els) ∨ (x'.pu = false ∧ REls C.fid γ w.heap arr (wds z) 0 x'.els) := by
        cases hpu : isPureEls (cellsL (v0 :: vr)) with
        | true => exact .inl ⟨hpu, pure_E hpu (fun h => by simpa [x', hpu] using h) g4⟩
        | false => exact .inr ⟨hpu, g4⟩
      have hcap : ∀ c, x'.cap = some c → n = c := fun c h => by
        have h' : (v0 :: vr).length = c := by simpa [x'] using h
        rw [← h', hpl]
      have := S.new hd (own_new w arr e) (heap_old w _) (Chg.alloc _ w _) (x := x') (i := ⟨0, some w.heap.size, wds z, n⟩) rfl rfl hcap (by simp only [x', cellsL_len]; omega) hcell (by simp only; rw [g2, hbs]; exact Nat.le_refl _) hels
      refine ⟨_, _, _, h1, RV_sl.2 ⟨_, Gh.set_mu .., Nat.le_refl _, some ⟨w.heap.size, 0, none⟩, n, by rw [hpl], fun _ => ⟨by simp, by omega, fun _ => ⟨w.heap.size, rfl, by simp⟩⟩⟩, this.2⟩
    · cases H
theorem purEls_ok {act : Act} (S : St C γ w act.tmps sl ob) : ∀ {l l' : List (List PV)} {g : Bool} {u : OB} {cs : Array Value} {w' off : Nat}, purEls ob l = some (l', g, u) → REls C.fid γ w.heap cs w' off l →
    FrzOf ob u ∧ l'.length = l.length ∧ ∀ u' : OB, (∀ o x, getO u o = some x → ∃ x, getO u' o = some x) → PEls w.heap ((γ.frz u').q g) cs w' off l'
  | [], l', g, u, cs, w', off, H, _ => by
    simp only [purEls, Option.some.injEq, Prod.mk.injEq] at H
    obtain ⟨e1, e2, e3⟩ := H; subst e1; subst e2; subst e3
    exact ⟨FrzOf.nil, rfl, fun _ _ => by simp only [PEls]⟩
  | x :: r, l', g, u, cs, w', off, H, hr => by
    simp only [purEls] at H
    cases h1 : puris ob x with
    | none => simp [h1, purC] at H
    | some p =>
      cases h2 : purEls ob r with
      | none => simp [h1, h2, purC] at H
      | some q =>
        simp only [h1, h2, purC, Option.some.injEq, Prod.mk.injEq] at H
        obtain ⟨e1, e2, e3⟩ := H; subst e1; subst e2; subst e3
        simp only [REls] at hr
        obtain ⟨f1, f2, f3⟩ := puris_ok S (l' := p.1) (g := p.2.1) (u := p.2.2) h1 hr.2.1
        obtain ⟨k1, k2, k3⟩ := purEls_ok S (l' := q.1) (g := q.2.1) (u := q.2.2) h2 hr.2.2
        refine ⟨f1.app k1, by simp only [List.length_cons, k2], fun u' hu' => ?_⟩
        have m1 : ∀ c, (γ.frz u').q p.2.1 c → (γ.frz u').q (p.2.1 && q.2.1) c ∧ w.heap[c]? = w.heap[c]? := fun c h => ⟨⟨h.1, fun e => h.2 (by simp at e; exact e.1)⟩, rfl⟩
        have m2 : ∀ c, (γ.frz u').q q.2.1 c → (γ.frz u').q (p.2.1 && q.2.1) c ∧ w.heap[c]? = w.heap[c]? := fun c h => ⟨⟨h.1, fun e => h.2 (by simp at e; exact e.2)⟩, rfl⟩
        simp only [PEls]
        refine ⟨by rw [f2]; exact hr.1, PCells_mono m1 _ _ _ (f3 u' fun o x h => hu' o x (getO_app_some h)), ?_⟩
        refine PEls_mono m2 _ _ _ _ (k3 u' fun o x h => ?_)
        cases hn : getO p.2.2 o with
        | some y => exact hu' o y (getO_app_some hn)
        | none => exact hu' o x (by rw [getO_app_none hn]; exact h)
theorem bldU_ok {v : Value} {w' : World} {γ' : Gh} {r0 r : Up} (hR : RV C.fid γ' w'.heap v r0.1) (S : St C γ' w' a.tmps sl (r0.2 ++ ob)) (H : bldU ob (some r0) = some r) :
    ∃ γ'' : Gh, RV C.fid γ'' w'.heap v r.1 ∧ St C γ'' w' a.tmps sl (r.2 ++ ob) := by
  unfold bldU at H
  split at H
  · rename_i v0 k x e
    injection e with e
    subst e
    split at H
    · injection H with H; subst H; exact ⟨γ', hR, S⟩
    · rename_i hc
      rw [not_or] at hc
      obtain ⟨hpu, hfro⟩ := hc
      have hpu : x.pu = false := by simpa using hpu
      have hfro : x.fro = false := by simpa using hfro
      cases hq : purEls ((k, x) :: ob) x.els with
      | none => simp [hq, bldQ] at H
      | some q =>
        obtain ⟨l', g, u⟩ := q
        simp only [hq, bldQ] at H
        split at H
        · cases H
        · rename_i hany
          injection H with H; subst H
          rw [Bool.or_eq_true, not_or] at hany
          obtain ⟨hany, hmp⟩ := hany
          have hmp : mpo x = none := by simpa using hmp
          have hun : getO u k = none := getO_any (Bool.eq_false_iff.2 hany)
          have S0 : St C γ' w' a.tmps sl ((k, x) :: ob) := S
          have hX : getO ((k, x) :: ob) k = some x := by simp [getO]
          obtain ⟨I, hI, h1, h2, h3, h4⟩ := S0.obj k x hX
          cases hbk : I.blk with
          | none =>
            simp only [hbk] at h4
            have hl : x.els = [] := List.length_eq_zero_iff.1 (by omega)
            rw [hl] at hq
            simp only [purEls, Option.some.injEq, Prod.mk.injEq] at hq
            obtain ⟨e1, e2, e3⟩ := hq; subst e1; subst e2; subst e3
            refine ⟨γ', hR, ?_⟩
            refine { S0 with obj := fun o y hy => ?_, dom := fun o i hi => ?_, unf := fun o y i b hy hf hi hb => ?_ }
            · simp only [List.nil_append, List.cons_append, getO] at hy
              split at hy
              · rename_i e; subst e
                injection hy with hy; subst hy
                exact ⟨I, hI, h1, h2, by simp, by simp only [hbk]; exact h4⟩
              · rename_i e
                exact S0.obj o y (by simp only [getO]; rw [if_neg e]; exact hy)
            · obtain ⟨y, hy⟩ := S0.dom o i hi
              simp only [List.nil_append, List.cons_append, getO] at hy ⊢
              split
              · exact ⟨_, rfl⟩
              · rename_i e; rw [if_neg e] at hy; exact ⟨y, hy⟩
            · simp only [List.nil_append, List.cons_append, getO] at hy
              split at hy
              · rename_i e; subst e
                exact S0.unf _ x i b hX hfro hi hb
              · rename_i e
                exact S0.unf o y i b (by simp only [getO]; rw [if_neg e]; exact hy) hf hi hb
          | some bb =>
            simp only [hbk] at h4
            obtain ⟨hw, cs, hown, htot, hels⟩ := h4
            rcases hels with ⟨hp, _⟩ | ⟨_, hels⟩
            · rw [hpu] at hp; cases hp
            · obtain ⟨k1, k2, k3⟩ := purEls_ok S0 hq hels
              obtain ⟨M, S1⟩ := S0.frz (u := u) k1
              have := S1.upd (x' := { x with els := l', pu := true, g := g }) ((getO_app_none hun).trans hX) hfro hI hbk (Wr.refl w' bb) (by unfold ownM at hown; rw [hmp] at hown; exact hown) htot rfl rfl k2 rfl (.inl ⟨rfl, k3 u (fun o x h => ⟨x, h⟩)⟩)
              refine ⟨_, RAt_mono (M _) hR, ?_⟩
              simpa using this
  · rename_i r' hne
    injection H with H
    subst H
    exact ⟨γ', hR, S⟩
theorem bldP_ok (hE : E.fid = C.fid) (hG : E.glob = C.glob) (S : St C γ w a.tmps sl ob) {t e : TypeId} {d n : Nat} {z : List PV} {parts : Array (Nat × Operand)} {r : Up} (ht : P.underlying t = some (.slice e)) (hz : zeroT P e = some z)
    (hp : parts.toList.map (·.1) = List.range n) (hn : n < 65536) (hc0 : 0 < P.cellsOf e) (hsz : P.cellsOf e ≤ 256) (H : bldP ob d (P.cellsOf e) (evs E sl (parts.toList.map (·.2))) = some r) :
    ∃ (v : Value) (w' : World) (γ' : Gh), (Instr.buildSlice t n (parts.map fun y => (y.1, a.eval y.2))).run P w = .ok v w' ∧ RV C.fid γ' w'.heap v r.1 ∧ St C γ' w' a.tmps sl (r.2 ++ ob) := by
  unfold bldP at H
  cases hb : bldS ob d (P.cellsOf e) (evs E sl (parts.toList.map (·.2))) with
  | none => rw [hb] at H; simp [bldU] at H
  | some r0 =>
    rw [hb] at H
    obtain ⟨v, w', γ', g1, g2, g3⟩ := bldS_ok hE hG S ht hz hp hn hc0 hsz hb
    obtain ⟨γ'', k1, k2⟩ := bldU_ok g2 g3 H
    exact ⟨v, w', γ'', g1, k1, k2⟩
end
end
section
open Go
section
variable {fid : Nat → Nat} {γ : Gh} {h : Array Obj} {cs cs' : Array Value}
theorem REls_atN {w' : Nat} {l : List (List PV)} {off off' : Nat} (H : ∀ i x, i < l.length * w' → cs[off + i]? = some x → cs'[off' + i]? = some x) (R : REls fid γ h cs w' off l) : REls fid γ h cs' w' off' l :=
  REls_of fun i x hx => by
    have := REls_get R i x hx
    have hi : i < l.length := (List.getElem?_eq_some_iff.1 hx).1
    refine ⟨this.1, RCells_at (fun j y hj hy => ?_) this.2⟩
    rw [this.1] at hj
    have hm := Nat.mul_le_mul_right w' (show i + 1 ≤ l.length by omega)
    rw [Nat.succ_mul] at hm
    have := H (i * w' + j) y (by omega) (by rw [← Nat.add_assoc]; exact hy)
    rwa [← Nat.add_assoc] at this
theorem REls_appN {w' : Nat} : ∀ {a b : List (List PV)} {off : Nat}, REls fid γ h cs w' off (a ++ b) ↔ REls fid γ h cs w' off a ∧ REls fid γ h cs w' (off + a.length * w') b
  | [], b, off => by simp [REls]
  | x :: r, b, off => by
    simp only [List.cons_append, REls, List.length_cons, REls_appN (a := r), and_assoc, Nat.succ_mul]
    rw [show off + (r.length * w' + w') = off + w' + r.length * w' by omega]
theorem REls_wN {w1 w2 : Nat} {l : List (List PV)} {off : Nat} (hw : allW w2 l = true) (hne : l ≠ []) (H : REls fid γ h cs w1 off l) : w1 = w2 := by
  cases l with
  | nil => exact absurd rfl hne
  | cons x r =>
    simp only [REls] at H
    simp only [allW, Bool.and_eq_true, beq_iff_eq] at hw
    rw [← H.1, hw.1]
theorem REls_subN {w' off : Nat} {l : List (List PV)} (H : REls fid γ h cs w' off l) (lo n : Nat) : REls fid γ h cs w' (off + lo * w') ((l.drop lo).take n) :=
  REls_of fun i x hx => by
    have hi : i < n := by
      have := (List.getElem?_eq_some_iff.1 hx).1
      simp only [List.length_take] at this; omega
    rw [List.getElem?_take_of_lt hi, List.getElem?_drop] at hx
    have := REls_get H _ x hx
    rwa [Nat.add_mul, ← Nat.add_assoc] at this
theorem mem_oneN {new : Array Value} {ys : List (List PV)} {w' : Nat} (hs : new.size = ys.length * w') (H : REls fid γ h new w' 0 ys) : ∀ v ∈ new.toList, v.oneCell' = true := by
  intro v hv
  obtain ⟨i, hi, e⟩ := List.getElem_of_mem hv
  rw [Array.length_toList] at hi
  rw [Array.getElem_toList] at e
  have hw : 0 < w' := Nat.pos_of_ne_zero (fun e => by rw [e, Nat.mul_zero] at hs; omega)
  have hj : i / w' < ys.length := by rw [Nat.div_lt_iff_lt_mul hw]; omega
  have h1 := REls_get H (i / w') _ (List.getElem?_eq_getElem hj)
  obtain ⟨u, hu, h2⟩ := oneCell_R h1.2 (i % w') (by rw [h1.1]; exact Nat.mod_lt _ hw)
  rw [Nat.zero_add, Nat.mul_comm, Nat.div_add_mod, Array.getElem?_eq_getElem hi] at hu
  injection hu with hu
  rw [← e, hu]; exact h2
theorem rowN_put {new : Array Value} {w' n : Nat} {xs ys : List (List PV)} (h1 : REls fid γ h cs w' 0 xs) (h2 : REls fid γ h new w' 0 ys) (hn : n + ys.length ≤ xs.length)
    (hsame : ∀ k v, k < n * w' ∨ (n + ys.length) * w' ≤ k → cs[k]? = some v → cs'[k]? = some v) (hput : ∀ k v, k < ys.length * w' → new[k]? = some v → cs'[n * w' + k]? = some v) :
    REls fid γ h cs' w' 0 (xs.take n ++ (ys ++ xs.drop (n + ys.length))) := by
  rw [REls_appN, REls_appN]
  have hl : (xs.take n).length = n := by simp; omega
  rw [hl]
  have t1 := REls_subN h1 0 n
  have t2 := REls_subN h1 (n + ys.length) (xs.length - (n + ys.length))
  rw [List.drop_zero, Nat.zero_mul] at t1
  rw [List.take_of_length_le (by simp)] at t2
  refine ⟨REls_atN (fun i x hi hx => ?_) t1, REls_atN (fun i x hi hx => ?_) h2, REls_atN (fun i x hi hx => ?_) t2⟩
  · rw [hl] at hi
    rw [Nat.zero_add] at hx ⊢
    exact hsame _ _ (.inl hi) (by simpa using hx)
  · rw [Nat.zero_add] at hx ⊢; exact hput _ _ hi hx
  · rw [Nat.zero_add] at hx ⊢
    rw [← Nat.add_mul]
    exact hsame _ _ (.inr (by omega)) hx
end
def SrcN (fid : Nat → Nat) (γ : Gh) (h : Array Obj) (x : Value) (ys : List (List PV)) : Prop :=
  ∃ a c, x = .slice a ys.length c ∧ (ys = [] ∨ ∃ b o w' cs, a = some ⟨b, o, none⟩ ∧ rowAt h b cs ∧ REls fid γ h cs w' o ys)
section
variable {P : Program} {E : Env} {C : Ctx} {γ : Gh} {w : World} {a : Act} {sl : SL} {ob : OB}
theorem contN_ok (S : St C γ w a.tmps sl ob) {x : Value} {xv : PV} {ys : List (List PV)} (hx : RV C.fid γ w.heap x xv) (H : contN ob xv = some ys) : SrcN C.fid γ w.heap x ys := by
  unfold contN at H
  split at H
  · rename_i o ver lo n
    cases hY : getO ob o with
    | none => simp [hY, contNX] at H
    | some Y =>
      simp only [hY, contNX] at H
      split at H
      · rename_i hc
        obtain ⟨hpu, hver, hn⟩ := hc
        injection H with H; subst H
        obtain ⟨I, hI, hv, base, c, rfl, hh⟩ := RV_sl.1 hx
        obtain ⟨I', hI', q1, q2, q3, q4⟩ := S.obj o Y hY
        rw [hI] at hI'; injection hI' with hI'; subst hI'
        obtain ⟨k1, k2, k3⟩ := hh (by omega)
        have hl : ((Y.els.drop lo).take n).length = n := by simp; omega
        refine ⟨base, c, by rw [hl], ?_⟩
        rcases Nat.eq_zero_or_pos n with h0 | h0
        · subst h0; exact .inl (by simp)
        · obtain ⟨b, hbk, rfl⟩ := k3 (by omega)
          simp only [hbk] at q4
          obtain ⟨p1, cs, p2, p3, p4⟩ := q4
          obtain ⟨hmp, p2⟩ := p2.cells (by first | exact .inr (by assumption) | exact .inl (fun e0 => by simp_all) | exact .inl (fun e0 => by rw [e0] at *; simp at *; omega))
          rcases p4 with ⟨hp, _⟩ | ⟨_, p4⟩
          · rw [hpu] at hp; cases hp
          · have := REls_subN p4 lo n
            rw [Nat.zero_add] at this
            exact .inr ⟨b, lo * I.w, I.w, cs, rfl, p2.row, this⟩
      · cases H
  · cases H
theorem srcN_ok {x : Value} {ys : List (List PV)} {size : Nat} (h0 : 0 < size) (H : SrcN C.fid γ w.heap x ys) (hw : allW size ys = true) : (Builtin.lenOf x).run P w = .ok ys.length w ∧
    ∀ n, n ≤ ys.length → ∃ arr, (Builtin.firstCells size n x).run P w = .ok arr w ∧ arr.size = n * size ∧ REls C.fid γ w.heap arr size 0 (ys.take n) := by
  obtain ⟨a, c, rfl, H⟩ := H
  refine ⟨by simp [Builtin.lenOf], fun n hn => ?_⟩
  rcases Nat.eq_zero_or_pos n with rfl | hpos
  · refine ⟨#[], ?_, by simp, by simp only [List.take_zero, REls]⟩
    cases a with
    | none => simp [Builtin.firstCells]
    | some ad => simp [Builtin.firstCells, loadCells, loadCellsFrom]
  · rcases H with rfl | ⟨b, o, w', cs, rfl, hrow, hE⟩
    · simp at hn; omega
    · have hw' : w' = size := REls_wN hw (fun e => by subst e; simp at hn; omega) hE
      subst hw'
      have hlt : o + n * w' ≤ cs.size := by
        · have hn1 : ys[n - 1]? = some (ys[n - 1]'(by omega)) := List.getElem?_eq_getElem (by omega)
          have h1 := REls_get hE (n - 1) _ hn1
          obtain ⟨u, hu, _⟩ := oneCell_R h1.2 (w' - 1) (by rw [h1.1]; omega)
          have h2 := (Array.getElem?_eq_some_iff.1 hu).1
          have h3 : (n - 1) * w' + w' = n * w' := by rw [← Nat.succ_mul]; congr 1; omega
          omega
      refine ⟨cs.extract o (o + n * w'), ?_, by simp; omega, ?_⟩
      · simp [Builtin.firstCells, run_loadCells_rowAt hrow hlt]
      · have := REls_subN hE 0 n
        rw [Nat.zero_mul, Nat.add_zero, List.drop_zero] at this
        refine REls_atN (fun i y hi hy => ?_) this
        simp only [List.length_take] at hi
        have : min n ys.length = n := by omega
        rw [this] at hi
        rw [Nat.zero_add, getElem?_extract' hi hlt]; exact hy
def ApdN (P : Program) (fid : Nat → Nat) (γ : Gh) (w : World) (at' : Array TypeId) (ty e : TypeId) (y : Value) (z : List PV) (zv : Value) (ys : List (List PV)) : Prop :=
  ∃ new : Array Value, new.size = ys.length * wds z ∧ REls fid γ w.heap new (wds z) 0 ys ∧ ∀ base n c old, c < n + ys.length → n + ys.length ≤ 4294967296 → (Builtin.firstCells (wds z) n (.slice base n c)).run P w.drew = .ok old w.drew →
    ∃ cap, n + ys.length ≤ cap ∧ (Builtin.append_ at' ty #[.slice base n c, y]).run P w = .ok (.slice (some ⟨w.heap.size, 0, none⟩) (n + ys.length) cap) (w.drew.alloc (.cells (old ++ new ++ Builtin.zeroCells zv.cells (cap - (n + ys.length))) e))
theorem apdN_src {at' : Array TypeId} {ty t e u : TypeId} {i : TypeInfo} {z : List PV} {zv : Value} {du : TypeDesc} {y : Value} {ys : List (List PV)} (h0 : at'[0]? = some t) (h1 : at'[1]? = some u) (ht : P.underlying t = some (.slice e)) (hu : P.underlying u = some du)
    (hi : P.info? e = some i) (hzv : i.zero = some zv) (hs2 : i.size = wds z) (hby : i.bytes ≤ 4096) (hz0 : 0 < wds z) (hni : ∀ k, du ≠ .int k) (hy : SrcN C.fid γ w.heap y ys) (hW : allW (wds z) ys = true) : ApdN P C.fid γ w at' ty e y z zv ys := by
  obtain ⟨hl, _⟩ := srcN_ok (P := P) (w := w) hz0 hy hW
  obtain ⟨_, hf⟩ := srcN_ok (P := P) (w := w.drew) hz0 (show SrcN C.fid γ w.drew.heap y ys from hy) hW
  obtain ⟨new, hnew, hns, hnE⟩ := hf ys.length (Nat.le_refl _)
  rw [List.take_length] at hnE
  refine ⟨new, hns, hnE, fun base n c old hlt hle hold => ?_⟩
  exact run_append_out h0 h1 ht hu hi hzv hni hl hlt hby hle (by rw [hs2]; exact hold) (by rw [hs2]; exact hnew)
theorem zerosN_ok {fid : Nat → Nat} {γ : Gh} {h : Array Obj} {z : List PV} {zc arr : Array Value} {n off : Nat} (hz : RCells fid γ h zc 0 z) (ha : ∀ j, j < n * wds z → arr[off + j]? = zc[j % wds z]?) :
    REls fid γ h arr (wds z) off (List.replicate n z) :=
  REls_of fun i x hx => by
    have hi : i < n := by have := (List.getElem?_eq_some_iff.1 hx).1; simpa using this
    rw [List.getElem?_replicate, if_pos hi] at hx
    injection hx with hx; subst hx
    refine ⟨rfl, RCells_at (fun j y hj hy => ?_) hz⟩
    have hm : i * wds z + j < n * wds z := by
      have := Nat.mul_le_mul_right (wds z) (show i + 1 ≤ n by omega)
      rw [Nat.succ_mul] at this; omega
    have := ha (i * wds z + j) hm
    rw [Nat.mul_comm i, Nat.mul_add_mod, Nat.mod_eq_of_lt hj, ← Nat.add_assoc, Nat.mul_comm _ i] at this
    rw [this]; rw [Nat.zero_add] at hy; exact hy
theorem apdN_int {at' : Array TypeId} {ty t e u : TypeId} {i : TypeInfo} {z : List PV} {zv : Value} {k k' : IntKind} {m : Nat} (h0 : at'[0]? = some t) (h1 : at'[1]? = some u) (ht : P.underlying t = some (.slice e)) (hu : P.underlying u = some (.int k))
    (hi : P.info? e = some i) (hzv : i.zero = some zv) (hs1 : zv.cells.size = wds z) (hs2 : i.size = wds z) (hby : i.bytes ≤ 4096) (hz0 : 0 < wds z) (hR : RCells C.fid γ w.heap zv.cells 0 z) (hm : m ≤ 4294967296) : ApdN P C.fid γ w at' ty e (.int k' m) z zv (List.replicate m z) := by
  have hwr : IntKind.i64.wrap (m : Int) = m := wrap_small (by omega) (by omega)
  have hbig : ¬ ((2 : Int) ^ 48 < (m : Int) * (i.bytes : Int)) := by
    have h1 : (m : Int) * (i.bytes : Int) ≤ (m : Int) * 4096 := Int.mul_le_mul_of_nonneg_left (by omega) (by omega)
    omega
  have hbig' : ¬ ((281474976710656 : Int) < (m : Int) * (i.bytes : Int)) := hbig
  let new := Builtin.zeroCells zv.cells m
  have hns : new.size = (List.replicate m z).length * wds z := by simp [new, size_zeroCells, hs1]
  have hnE : REls C.fid γ w.heap new (wds z) 0 (List.replicate m z) := zerosN_ok hR (fun j hj => by
    rw [Nat.zero_add]; simp only [new]; rw [zeroCells_get _ _ _ (by rw [hs1]; exact hj), hs1])
  have hneg : ¬ ((m : Int) < 0) := by omega
  have hs0 : i.size ≠ 0 := by omega
  have hnew0 : Builtin.zeroCells zv.cells 0 = #[] := by simp [Builtin.zeroCells]
  refine ⟨new, hns, hnE, fun base n c old hlt hn hold => ?_⟩
  simp only [List.length_replicate] at hlt hn ⊢
  have hn' : ¬ (n + m ≤ c) := by omega
  have h63 : ¬ (9223372036854775807 < ((n : Int) + (m : Int))) := by omega
  have hfit : Builtin.nextslicecap (n + m) c * i.bytes ≤ 281474976710656 := growslice_fits hlt (by
    have := Nat.mul_le_mul hn hby; omega)
  have h48 : ¬ (281474976710656 < Builtin.nextslicecap (n + m) c * i.bytes) := by omega
  rw [← hs2] at hold
  refine ⟨grownCap w (n + m) c e, grownCap_ge w (n + m) c e, ?_⟩
  rcases Nat.eq_zero_or_pos m with rfl | hmp
  · have hn'' : ¬ n ≤ c := by omega
    have h63' : ¬ (9223372036854775807 < (n : Int)) := by omega
    simp only [Nat.add_zero] at h48 ⊢
    simp only [new, hnew0]
    simp [Builtin.append_, h0, h1, run_underlying' ht, run_underlying' hu, sizeOf, typeInfo, zeroValue, hi, hzv, asInt, asIntOf, hn'', h63', h48, Question.forced, hold, newRow, grownCap, show IntKind.i64.wrap 0 = 0 from by simpa using hwr]
  · have hm0 : m ≠ 0 := by omega
    simp only [new]
    simp [Builtin.append_, h0, h1, run_underlying' ht, run_underlying' hu, sizeOf, typeInfo, zeroValue, hi, hzv, asInt, asIntOf, hwr, hneg, hbig', hn', h63, h48, Question.forced, hold, hm0, hs0, Nat.mul_ne_zero hm0 hs0, newRow, grownCap]
theorem apNE_ok (S : St C γ w a.tmps sl ob) {at' : Array TypeId} {ty e : TypeId} {d : Nat} {z : List PV} {zv : Value} {x y : Value} {xv : PV} {ys : List (List PV)} {r : Up}
    (hs1 : zv.cells.size = wds z) (hz0 : 0 < wds z) (hx : RV C.fid γ w.heap x xv) (hA : allW (wds z) ys = true → ApdN P C.fid γ w at' ty e y z zv ys) (H : apNE ob d (wds z) ys xv = some r) :
    ∃ (v : Value) (w' : World) (γ' : Gh), (Builtin.append_ at' ty #[x, y]).run P w = .ok v w' ∧ RV C.fid γ' w'.heap v r.1 ∧ St C γ' w' a.tmps sl (r.2 ++ ob) := by
  have key : ∀ base c, c < ys.length → ys.length ≤ two32 → allW (wds z) ys = true → getO ob d = none → r = (.sl d 0 0 ys.length, [(d, rowN ys (wds z))]) → x = .slice base 0 c →
      ∃ (v : Value) (w' : World) (γ' : Gh), (Builtin.append_ at' ty #[x, y]).run P w = .ok v w' ∧ RV C.fid γ' w'.heap v r.1 ∧ St C γ' w' a.tmps sl (r.2 ++ ob) := by
    intro base c hc hlen hW hd e1 e2
    subst e1; subst e2
    simp only [two32] at hlen
    obtain ⟨new', hns', hnE', hout⟩ := hA hW
    obtain ⟨cap, hcap, hrun⟩ := hout base 0 c #[] (by omega) (by omega) (by cases base <;> simp [Builtin.firstCells, loadCells, loadCellsFrom])
    have hcat : REls C.fid γ w.heap (#[] ++ new' ++ Builtin.zeroCells zv.cells (cap - (0 + ys.length))) (wds z) 0 ys := by
      refine REls_atN (fun i v hi hv => ?_) hnE'
      rw [Nat.zero_add] at hv ⊢
      rw [Array.empty_append, Array.getElem?_append_left (by omega)]
      first | exact hv | (rw [Nat.zero_add]; exact hv)
    have := S.new hd (w' := w.drew.alloc (.cells (#[] ++ new' ++ Builtin.zeroCells zv.cells (cap - (0 + ys.length))) e)) (own_new w.drew _ e) (fun i hi => heap_old w.drew _ i hi) ((Chg.drew _ w).trans (Chg.alloc _ _ _))
      (x := rowN ys (wds z)) (i := ⟨0, some w.heap.size, wds z, cap⟩) rfl rfl (fun c h => by simp [rowN] at h) (by simp only [rowN]; omega) rfl
      (by simp only [Array.size_append, size_zeroCells, hs1, hns', Array.size_empty, Nat.zero_add]; rw [← Nat.add_mul]; exact Nat.mul_le_mul_right _ (by omega)) (.inr ⟨rfl, hcat⟩)
    exact ⟨_, _, _, hrun, RV_sl.2 ⟨_, Gh.set_mu .., Nat.le_refl _, _, _, by simp; exact ⟨rfl, rfl⟩, fun _ => ⟨by simp, by omega, fun _ => ⟨w.heap.size, rfl, by simp⟩⟩⟩, this.2⟩
  unfold apNE at H
  split at H
  · split at H
    · rename_i hc
      obtain ⟨hd, e1⟩ := newX_ok H
      obtain ⟨ad, e2, hn⟩ := RV_e.1 hx
      exact key ad 0 hc.1 hc.2.1 hc.2.2 hd e1 e2
    · cases H
  · rename_i o ver lo n
    split at H
    · rename_i hc
      obtain ⟨⟨h1, h2, h3⟩, h4, h5, h6⟩ := hc
      subst h1; subst h2
      obtain ⟨hd, e1⟩ := newX_ok H
      obtain ⟨I, hI, hv, base, c, rfl, hh⟩ := RV_sl.1 hx
      cases hY : getO ob o with
      | none => simp [hY, noRoom] at h3
      | some Y =>
        obtain ⟨I', hI', q1, q2, q3, q4⟩ := S.obj o Y hY
        rw [hI] at hI'; injection hI' with hI'; subst hI'
        simp only [hY, noRoom, Bool.and_eq_true, beq_iff_eq] at h3
        obtain ⟨hver, hcap⟩ := h3
        obtain ⟨k1, k2, k3⟩ := hh (by omega)
        cases hcp : Y.cap with
        | none => simp [hcp, capLt] at hcap
        | some cc =>
          simp only [hcp, capLt, decide_eq_true_eq] at hcap
          have := q2 cc hcp
          exact key base c (by omega) h5 h6 hd e1 rfl
    · cases H
  · cases H
theorem cpNX_ok (S : St C γ w a.tmps sl ob) {at' : Array TypeId} {ty t e : TypeId} {x y : Value} {xv : PV} {ys : List (List PV)} {r : Up} (h0 : at'[0]? = some t) (ht : P.underlying t = some (.slice e)) (hk : known P e = true) (hz0 : 0 < P.cellsOf e)
    (hx : RV C.fid γ w.heap x xv) (hy : SrcN C.fid γ w.heap y ys) (H : cpNX ob (P.cellsOf e) ys xv = some r) :
    ∃ (v : Value) (w' : World) (γ' : Gh), (Builtin.copy_ at' ty #[x, y]).run P w = .ok v w' ∧ RV C.fid γ' w'.heap v r.1 ∧ St C γ' w' a.tmps sl (r.2 ++ ob) := by
  obtain ⟨d, hd⟩ := known_some hk
  have hrun : ∀ {base : Option Addr} {n c m : Nat} {new : Array Value} {w' : World}, (Builtin.lenOf y).run P w = .ok m w → (Builtin.firstCells (P.cellsOf e) (Nat.min m n) y).run P w = .ok new w → (∀ ad, base = some ad → (storeCells ad new.toList).run P w = .ok () w') → (base = none → w' = w) →
      (Builtin.copy_ at' ty #[.slice base n c, y]).run P w = .ok (goInt (Nat.min m n : Nat)) w' := by
    intro base n c m new w' hm hnew hst hnone
    cases base with
    | none => have := hnone rfl; subst this; simp [Builtin.copy_, h0, run_underlying' ht, run_sizeOf' hd, hm, hnew]
    | some ad => simp [Builtin.copy_, h0, run_underlying' ht, run_sizeOf' hd, hm, hnew, hst ad rfl]
  unfold cpNX at H
  split at H
  · rename_i o ver lo n
    cases hY : getO ob o with
    | none => simp [hY, cpNO] at H
    | some Y =>
      simp only [hY, cpNO] at H
      split at H
      · rename_i hc
        obtain ⟨hver, hw, hpu, hfro, hn, hW⟩ := hc
        injection H with H; subst H
        obtain ⟨I, hI, hv, base, c, rfl, hh⟩ := RV_sl.1 hx
        obtain ⟨I', hI', q1, q2, q3, q4⟩ := S.obj o Y hY
        rw [hI] at hI'; injection hI' with hI'; subst hI'
        obtain ⟨k1, k2, k3⟩ := hh (by omega)
        obtain ⟨hl, hf⟩ := srcN_ok (P := P) (w := w) hz0 hy hW
        obtain ⟨new, hnew, hns, hnE⟩ := hf (min ys.length n) (Nat.min_le_left _ _)
        have hyl : (ys.take (min ys.length n)).length = min ys.length n := by simp
        rcases Nat.eq_zero_or_pos (min ys.length n) with hm | hm
        · have hnew0 : new = #[] := by
            apply Array.eq_empty_of_size_eq_zero; rw [hns, hm]; simp
          subst hnew0
          have h2 := hrun (base := base) (n := n) (c := c) (w' := w) hl hnew (fun _ _ => by simp [storeCells]) (fun _ => rfl)
          have he : ({ Y with els := Y.els.take lo ++ (ys.take (min ys.length n) ++ Y.els.drop (lo + min ys.length n)) } : Obj') = Y := by
            rw [hm]; simp
          refine ⟨_, w, γ, h2, RV_i.2 rfl, ?_⟩
          rw [he]
          refine { S with obj := fun o' z hz => ?_, dom := fun o' i hi => ?_, unf := fun o' z i b hz hf hi hb => ?_ }
          · simp only [List.cons_append, List.nil_append, getO] at hz
            split at hz
            · rename_i e'; subst e'; injection hz with hz; subst hz; exact S.obj _ _ hY
            · exact S.obj o' z hz
          · obtain ⟨z, hz⟩ := S.dom o' i hi
            simp only [List.cons_append, List.nil_append, getO]
            split
            · exact ⟨_, rfl⟩
            · exact ⟨z, hz⟩
          · simp only [List.cons_append, List.nil_append, getO] at hz
            split at hz
            · rename_i e'; subst e'; injection hz with hz; subst hz; exact S.unf _ _ i b hY hf hi hb
            · exact S.unf o' z i b hz hf hi hb
        · obtain ⟨b, hbk, rfl⟩ := k3 (by omega)
          simp only [hbk] at q4
          obtain ⟨p1, cs, pown, p3, p4⟩ := q4
          obtain ⟨hmp, tt, fr, p2, p2'⟩ := pown.cells (by first | exact .inr (by assumption) | exact .inl (fun e0 => by simp_all) | exact .inl (fun e0 => by rw [e0] at *; simp at *; omega))
          have hIw : I.w = P.cellsOf e := by rw [← p1, hw]
          have p4 : REls C.fid γ w.heap cs I.w 0 Y.els := by
            rcases p4 with ⟨hp, _⟩ | ⟨_, p4⟩
            · rw [hpu] at hp; cases hp
            · exact p4
          rw [hIw] at p3 p4
          have hmul : (lo + min ys.length n) * P.cellsOf e ≤ cs.size := Nat.le_trans (Nat.mul_le_mul_right _ (by omega)) p3
          rw [Nat.add_mul] at hmul
          have hnl : new.toList.length = min ys.length n * P.cellsOf e := by rw [Array.length_toList, hns]
          obtain ⟨w', cs', g1, g2, g3, g4, g5⟩ := run_storeCells_own (P := P) b (lo * I.w) tt fr new.toList 0 cs w p2 p2' (by rw [hnl, hIw]; omega) (mem_oneN (by rw [hns, hyl]) hnE)
          have h2 := hrun (base := some ⟨b, lo * I.w, none⟩) (n := n) (c := c) (w' := w') hl hnew (fun ad' e' => by injection e' with e'; subst e'; exact g1) (fun h => by cases h)
          have hsame : ∀ k v, k < lo * P.cellsOf e ∨ (lo + (ys.take (min ys.length n)).length) * P.cellsOf e ≤ k → cs[k]? = some v → cs'[k]? = some v := by
            intro k v hk hv'
            rw [hyl, Nat.add_mul] at hk
            rw [g5, if_neg (by rw [hnl, hIw]; omega)]; exact hv'
          have hput : ∀ k v, k < (ys.take (min ys.length n)).length * P.cellsOf e → new[k]? = some v → cs'[lo * P.cellsOf e + k]? = some v := by
            intro k v hk hv'
            rw [hyl] at hk
            rw [g5, if_pos (by rw [hnl, hIw]; omega), show lo * P.cellsOf e + k - (lo * I.w + 0) = k by rw [hIw]; omega, Array.getElem?_toList]; exact hv'
          have hput' := rowN_put p4 hnE (by rw [hyl]; omega) hsame hput
          rw [hyl] at hput'
          exact ⟨_, w', γ, h2, RV_i.2 rfl, S.upd (x' := { Y with els := Y.els.take lo ++ (ys.take (min ys.length n) ++ Y.els.drop (lo + min ys.length n)) }) hY hfro hI hbk g4 ⟨tt, fr, g2, by rw [g3]; exact p2'⟩ (by rw [g3, hIw]; exact p3) rfl rfl (by simp; omega) rfl (.inr ⟨hpu, by rw [hIw]; exact hput'⟩)⟩
      · cases H
  · cases H
end
end
end Go.Proofs.Ytnkapponcbgbhaa
