import Derived.Test.YtmhpkdcnhgmblaaDoorIterS
import Derived.Test.YtmhpkdcnhgmblaaDoorDenA
set_option linter.all false
namespace Go.Proofs.YtmhpkdcnhgmblaaDoor
section
open Go
theorem rgF_some {Φ : Sem'} {ob : OB} {v : PV} {q : List Nat × List (List PV)} (h : rgF Φ ob v = some q) :
    ∃ k cs os g, v = .fn k [] cs ∧ getO ob rp = none ∧ getO ob rq = none ∧ reach ((rp, lpO) :: (rq, lpO) :: ob) 20 (rp :: rq :: refsL cs) [] = some q.1 ∧ getOs ((rp, lpO) :: (rq, lpO) :: ob) q.1 = some os ∧
      q.1.length ≤ 60 ∧ os.all (fun x => !x.fro) = true ∧ q.1.all (fun o => decide (64 ≤ o)) = true ∧ q.1.take 2 = [rp, rq] ∧ (refsOB (delO q.1 ob)).any (q.1.contains ·) = false ∧
      Φ k (renL (idx q.1) (.y rp 0 4 :: cs)) (os.map (renO (idx q.1))) = some (.tup [.un, .l g q.2], []) := by
  unfold rgF at h
  split at h
  · rename_i k cs
    unfold rgNo at h
    split at h
    · rename_i h1 h2
      unfold rgRun at h
      split at h
      · rename_i ids hre
        unfold rgOs at h
        split at h
        · rename_i os hos
          split at h
          · rename_i hc
            obtain ⟨c1, c2, c3, c4, c5⟩ := hc
            unfold rgIt at h
            split at h
            · rename_i g xs hphi
              injection h with h
              subst h
              exact ⟨k, cs, os, g, rfl, h1, h2, hre, hos, c1, c2, c3, c4, c5, hphi⟩
            · cases h
          · cases h
        · cases h
      · cases h
    · cases h
  · cases h
theorem RL_shift {fid : Nat → Nat} {γ : Gh} {h : Array Obj} {cs cs' : Array Value} {d : Nat} (H : ∀ (k : Nat) x, cs[k]? = some x → cs'[k + d]? = some x) : ∀ {l : List PV} {off : Nat}, RL fid γ h cs off l → RL fid γ h cs' (off + d) l
  | [], _, _ => by simp only [RL]
  | v :: r, off, hR => by
    simp only [RL] at hR ⊢
    obtain ⟨⟨x, h1, h2⟩, h3⟩ := hR
    refine ⟨⟨x, H _ _ h1, h2⟩, ?_⟩
    have := RL_shift H h3
    rwa [show off + 1 + d = off + d + 1 by omega] at this
section
variable {P : Program} {E : Env} {C : Ctx}
theorem range_ok (hE : E.fid = C.fid) (hG : E.glob = C.glob) {Φ : Sem'} (hΦI : SoundI P C.fid C.glob Φ) {N n M : Nat} (hM : n ≤ M) (f : Operand) (ps : Array Tmp) (as c : Code) (hA : DenOK P E C Φ N n M as) (hB : DenOK P E C Φ N n M c) : DenOK P E C Φ N n M (.rangeFunc f ps as c) := by
  intro nn F hF T hT hY hH
  obtain ⟨rfl, hHd, hRt⟩ := hH rfl
  refine ⟨?_, fun l rest hf => by simp [findLabel] at hf⟩
  intro K sl ob a γ0 w r H hs I
  simp only [den] at H
  split at H
  case isFalse => cases H
  rename_i hc
  obtain ⟨hyp, hna, hnh, hall⟩ := hc
  split at H
  · cases H
  rename_i hd hann
  obtain ⟨x, hxe⟩ : ∃ x : SL × OB, x = (keepS sl hd.ts, ob) := ⟨_, rfl⟩
  have hv := inv_eqs hE hG I f
  obtain ⟨C', hf, hg, hTT, S0⟩ := I
  have S : St C' γ0 w a.tmps x.1 x.2 := by
    rw [hxe]
    exact S0.slots fun t => by
      rcases keepS_get sl hd.ts t with e | e
      · rw [e]; exact S0.slot t
      · rw [e]; exact RV_un
  obtain ⟨γ, hγ0⟩ : ∃ γ, γ = γ0 := ⟨_, rfl⟩
  rw [← hγ0] at S hv
  have hkp := hHd _ _ _ _ hTT
  have hRt := hRt hyp
  unfold rgO at H
  split at H
  case h_2 => cases H
  rename_i q hq
  obtain ⟨k, cs, os, g, he, hrp, hrq, hreach, hos, hlen60, hfro, h64, htake, hdel, hphi⟩ := rgF_some hq
  obtain ⟨ids, xs⟩ := q
  rw [show ob = x.2 by rw [hxe]] at hrp hrq hreach hos hdel H
  rw [show keepS sl hd.ts = x.1 by rw [hxe]] at H
  simp only at hreach hos hlen60 hfro h64 htake hdel hphi H
  rw [he, RV_fn] at hv
  obtain ⟨f0, a1, a2, hev, hfk, ⟨ha1, _⟩, ha2, hRL⟩ := hv
  have ha1' : a1 = #[] := by simpa using ha1
  subst ha1'
  have hps : ∀ t ∈ ps.toList, t < M := by
    intro t ht
    rw [← Array.all_toList] at hall
    have := List.all_eq_true.1 hall t ht
    have h2 : t < n := by simpa using this
    exact Nat.lt_of_lt_of_le h2 hM
  obtain ⟨D, hD0⟩ : ∃ D, w.heap.size = D := ⟨_, rfl⟩
  obtain ⟨l, hl0⟩ : ∃ l, D + 1 = l := ⟨_, rfl⟩
  have hw0 := S.chg.size
  refine wpIn_rangeFunc ?_
  intro fn hfn
  obtain ⟨W1, hW1⟩ : ∃ W1, (w.alloc (.deferred (some []))).alloc (.loop (recO fn a.tmps ps as c D .ready none)) = W1 := ⟨_, rfl⟩
  have hL1 : W1.heap[l]? = some (.loop (recO fn a.tmps ps as c D .ready none)) := by
    rw [← hW1, ← hl0, ← hD0]; have := World.alloc_heap_new (w.alloc (.deferred (some []))) (.loop (recO fn a.tmps ps as c w.heap.size .ready none)); rwa [World.size_alloc] at this
  have hc1 : Chg (fun _ => False) w W1 := by rw [← hW1]; exact (Chg.allocs w _).trans ((Chg.allocs _ _).weaken (fun _ _ h => h))
  have hK1 : W1.heap[D]? = some (.deferred (some [])) := by
    rw [← hW1, ← hD0]
    have h2 : (w.alloc (.deferred (some []))).heap[w.heap.size]? = some (.deferred (some [])) := World.alloc_heap_new w _
    exact ((Chg.allocs (w.alloc (.deferred (some []))) (.loop (recO fn a.tmps ps as c w.heap.size .ready none))).block _ (Array.getElem?_eq_some_iff.1 h2).1 (fun h => h)).trans h2
  have hl1W := (Array.getElem?_eq_some_iff.1 hL1).1
  have S1 : St C' γ W1 a.tmps x.1 x.2 := S.same hc1 (fun _ _ h => h.elim) (fun _ _ h => h.elim)
  have mrp : γ.mu rp = none := mu_none S hrp
  have mrq : γ.mu rq = none := mu_none S hrq
  let γ2 : Gh := { γ with mu := fun o => if o = rp then some ⟨0, none, l, 0⟩ else if o = rq then some ⟨0, none, 0, 0⟩ else γ.mu o }
  have S2 : St C' γ2 W1 a.tmps x.1 ((rp, lpO) :: (rq, lpO) :: x.2) := (St.change (γ' := γ2) (w' := W1) (u := [(rp, lpO), (rq, lpO)]) S1
    (fun o ho => by
      simp only [getO] at ho
      split at ho
      · cases ho
      · rename_i h1
        split at ho
        · cases ho
        · rename_i h2
          simp only [γ2]; rw [if_neg (fun e => h1 e.symm), if_neg (fun e => h2 e.symm)])
    (fun o i hi => ⟨i, by
      simp only [γ2]
      split
      · rename_i e; subst e; rw [mrp] at hi; cases hi
      · split
        · rename_i e; subst e; rw [mrq] at hi; cases hi
        · exact hi, .inl rfl⟩)
    (fun b hb => ⟨hb, rfl⟩) rfl (fun o i' b _ _ _ => ⟨rfl, id⟩)
    (fun o y hy => by
      simp only [getO] at hy
      split at hy
      · rename_i e; injection hy with hy; subst hy; subst e
        exact ⟨⟨0, none, l, 0⟩, by simp [γ2], ⟨rfl, (fun c h => by simp [lpO] at h), by simp [lpO], rfl⟩, fun b hb => by cases hb⟩
      · split at hy
        · rename_i e; injection hy with hy; subst hy; subst e
          exact ⟨⟨0, none, 0, 0⟩, by simp [γ2, rp, rq], ⟨rfl, (fun c h => by simp [lpO] at h), by simp [lpO], rfl⟩, fun b hb => by cases hb⟩
        · cases hy)
    S1.lt (fun b hb => .inl hb) (Chg.refl _ _)).2.2
  have blk2 : ∀ o i b, γ2.mu o = some i → i.blk = some b → γ.mu o = some i := by
    intro o i b h1 h2
    simp only [γ2] at h1
    split at h1
    · injection h1 with h1; subst h1; cases h2
    · split at h1
      · injection h1 with h1; subst h1; cases h2
      · exact h1
  have args2 : RL C'.fid (γ2.lend W1 [] ids) W1.heap (#[.func (.yield l) #[] #[]] ++ a2) 0 (.y rp 0 4 :: cs) := by
    simp only [RL]
    refine ⟨⟨.func (.yield l) #[] #[], by rw [Array.getElem?_append_left (Nat.zero_lt_one)]; rfl, ?_⟩, ?_⟩
    · simp only [RAt]
      exact ⟨⟨0, none, l, 0⟩, by simp [Gh.lend, γ2], Nat.le_refl _, l, by simp, fun _ => rfl⟩
    · refine RL_shift (cs := a2) (d := 1) (fun k y hk => ?_) (off := 0) (RL_mono (γ := γ) (h := w.heap) ⟨fun o _ i hi => ⟨i, ?_, .inl rfl⟩, fun g b hb => ⟨(lend_lent γ2 W1 [] ids).q g b hb, hc1.block b (S.lt b hb.1) (fun h => h)⟩⟩ (by rw [hf]; exact hRL))
      · rw [Array.getElem?_append_right (by simp)]; simpa using hk
      · simp only [Gh.lend, γ2]
        split
        · rename_i e; subst e; rw [mrp] at hi; cases hi
        · split
          · rename_i e; subst e; rw [mrq] at hi; cases hi
          · exact hi
  have Se := enter_ok (act := a) S2 (bor := []) (ids := ids) args2 (by simp [ha2, Nat.add_comm]) (todo := rp :: rq :: refsL cs) (fun o ho => by
    simp only [refsL, refs, List.mem_append, List.mem_singleton] at ho
    rcases ho with rfl | ho
    · simp
    · simp [ho]) hreach (by simp) hos
  obtain ⟨ids', rfl⟩ : ∃ r, ids = rp :: rq :: r := by
    match ids, htake with
    | [], h => simp at h
    | [_], h => simp at h
    | a :: b :: r, h => simp only [List.take_succ_cons, List.take_zero, List.cons.injEq, and_true] at h; obtain ⟨rfl, rfl⟩ := h; exact ⟨r, rfl⟩
  obtain ⟨ids, hids⟩ : ∃ ids, rp :: rq :: ids' = ids := ⟨_, rfl⟩
  have hmu0 : (C'.enter γ2 W1 [] ids).g0.mu 0 = some ⟨0, none, l, 0⟩ := by rw [← hids]; simp [Ctx.enter, Gh.ren, Gh.lend, nth, γ2]
  have hmu1 : (C'.enter γ2 W1 [] ids).g0.mu 1 = some ⟨0, none, 0, 0⟩ := by rw [← hids]; simp [Ctx.enter, Gh.ren, Gh.lend, nth, γ2, rp, rq]
  rw [hids] at Se hreach hos hlen60 h64 hdel hphi H
  have S3 := S1.del hkp (fun o ho => by have := List.all_eq_true.1 h64 o ho; simpa using this) hdel
  let γ3 : Gh := { γ with mu := fun o => if o ∈ ids then none else γ.mu o }
  unfold normK at H
  obtain ⟨y, hy, H⟩ := bnd_some H
  have S3b := S3.rebase (fun k => k < 64) (Chg.refl (fun _ => False) W1) (fun _ _ h => h.elim)
  have X3 : Ext C' (C'.re γ3 W1 (fun k => k < 64)) := (Ext.refl' S3).rebase S3 hkp (Chg.refl (fun _ => False) W1) (fun _ _ h => h.elim) (fun _ _ h => h.elim)
  obtain ⟨γ4, S4⟩ := headH_ok (fun _ h => h) S3b hy
  have own4 : ∀ b, ownB γ4 b → ownB γ3 b := by
    rintro b ⟨o, i, h1, h2⟩
    have hlt := blk_lt S4 h1 h2
    rcases S4.own o i b h1 h2 with h | h
    · exact h
    · change W1.heap.size ≤ b at h; omega
  have im4 : ∀ b, γ4.im b → γ.im b ∨ ownB γ3 b := by
    intro b h
    have hlt := S4.lt b h
    rcases S4.imn b h with h | h | h
    · exact .inl h
    · exact .inr h
    · change W1.heap.size ≤ b at h; omega
  have imk4 : ∀ b, γ.im b → γ4.im b := fun b h => (S4.imk b h).1
  have own3 : ∀ b, ownB γ3 b → ∃ o i, o ∉ ids ∧ γ.mu o = some i ∧ i.blk = some b := by
    rintro b ⟨o, i, h1, h2⟩
    simp only [γ3] at h1
    split at h1
    · cases h1
    · exact ⟨o, i, by assumption, h1, h2⟩
  have warm2 : ∀ o i, o ∈ ids → γ.mu o = some i → ∃ y, getO x.2 o = some y ∧ y.fro = false := by
    intro o i ho hi
    obtain ⟨y, hy⟩ := S.dom o i hi
    obtain ⟨j, hj, hjo⟩ := List.mem_iff_getElem.1 ho
    obtain ⟨z, hz, hz2⟩ := (getOs_ok _ ids os hos).2 j o (by rw [List.getElem?_eq_getElem hj, hjo])
    have h1 : rp ≠ o := fun e => by subst e; rw [mrp] at hi; cases hi
    have h2 : rq ≠ o := fun e => by subst e; rw [mrq] at hi; cases hi
    simp only [getO] at hz2
    rw [if_neg h1, if_neg h2, hy] at hz2
    injection hz2 with hz2
    subst hz2
    have := List.all_eq_true.1 hfro y (List.mem_of_getElem? hz)
    exact ⟨y, hy, by simpa using this⟩
  have blkA : ∀ b, blkOf γ2 ids b → ∃ o i, o ∈ ids ∧ γ.mu o = some i ∧ i.blk = some b := by
    rintro b ⟨o, i, h1, h2, h3⟩
    exact ⟨o, i, h1, blk2 o i b h2 h3, h3⟩
  let Z : Rnd P C.fid xs l 0 :=
    { J := fun pre CH PR W => ∃ γ sl ob rest, pre ++ rest = xs ∧ rounds' (fun g sl0 => den P E Φ N n as none (thenA (den P E Φ N n c none (rgK g K sl0)))) ps.toList hd (K .norm) rest sl ob = some r ∧ JS C' a.tmps D l (recO fn a.tmps ps as c D .ready none) γ sl ob CH PR W
      Jx := fun CH PR W => ∃ γ sl ob o cj, jumpOf o = some cj ∧ K o sl ob = some r ∧ JS C' a.tmps D l (recO fn a.tmps ps as c D .done (some cj)) γ sl ob CH PR W
      IM := fun b => C'.g0.im b ∨ C'.A b ∨ C'.w0.heap.size ≤ b
      stab := fun pre CH PR W W' ⟨γ, sl, ob, rest, h1, h2, h3⟩ hc => ⟨γ, sl, ob, rest, h1, h2, h3.stab hc⟩
      stabx := fun CH PR W W' ⟨γ, sl, ob, o, cj, h1, h2, h3⟩ hc => ⟨γ, sl, ob, o, cj, h1, h2, h3.stab hc⟩
      round := fun pre x rest CH PR W γi vals h1 h2 h3 h4 h5 h6 => round_ok hA hB hyp hna hnh hf hg hkp hs hps (by omega) (by omega) pre x rest CH PR W γi vals h1 h2 h3 h4 h5 h6 }
  obtain ⟨hcalls, hbod⟩ := hΦI f0 _ _ g xs (by rw [hfk]; exact hphi) (by rw [List.length_map, (getOs_ok _ ids os hos).1, ← hids]; simp) (C'.enter γ2 W1 [] ids) (#[.func (.yield l) #[] #[]] ++ a2) hf hg
    (by rw [length_renL]; simp [ha2, Nat.add_comm]) (by rw [List.length_map, (getOs_ok _ ids os hos).1]; omega) (fun k => Iff.rfl) Se l 0 Z (CHo γ4 D l) (PRo C' γ4 D l) ⟨_, hmu0, rfl, rfl⟩ hmu1
    (by
      have ownP : ∀ b, ownB γ3 b → b < W1.heap.size ∧ ¬ blkOf γ2 ids b := by
        intro b h
        refine ⟨let ⟨o, i, g1, g2⟩ := h; blk_lt S3 g1 g2, fun hA => ?_⟩
        obtain ⟨o, i, g1, g2, g3⟩ := own3 b h
        obtain ⟨o', i', k1, k2, k3⟩ := blkA b hA
        exact g1 (S.inj o o' i i' b g2 k2 g3 k3 ▸ k1)
      rintro b (h | h | h | h | ⟨h, h'⟩)
      · exact ownP b (own4 b h)
      · subst h
        refine ⟨(Array.getElem?_eq_some_iff.1 hK1).1, fun hA => ?_⟩
        obtain ⟨o', i', k1, k2, k3⟩ := blkA b hA
        have := blk_lt S k2 k3; omega
      · subst h
        refine ⟨hl1W, fun hA => ?_⟩
        obtain ⟨o', i', k1, k2, k3⟩ := blkA b hA
        have := blk_lt S k2 k3; omega
      · rcases im4 b h with h | h
        · refine ⟨S1.lt b h, fun hA => ?_⟩
          obtain ⟨o', i', k1, k2, k3⟩ := blkA b hA
          obtain ⟨y, hy, hyf⟩ := warm2 o' i' k1 k2
          exact S.unf o' y i' b hy hyf k2 k3 h
        · exact ownP b h
      · refine ⟨Nat.lt_of_lt_of_le h S1.chg.size, fun hA => ?_⟩
        obtain ⟨o', i', k1, k2, k3⟩ := blkA b hA
        rcases S.own o' i' b k2 k3 with h2 | h2
        · exact h' h2
        · omega)
    (by
      have nim : ∀ b, (C'.enter γ2 W1 [] ids).g0.im b → γ.im b := by
        rintro b (h | ⟨o, i, ho, _⟩)
        · exact h
        · cases ho
      rintro b (⟨h1, h2⟩ | h | h)
      · exact ⟨.inl h1, fun h => h2 (imk4 b (nim b h))⟩
      · exact ⟨.inr (.inl h), fun h' => by have := S.lt b (nim b h'); omega⟩
      · exact ⟨.inr (.inr (.inl h)), fun h' => by have := S.lt b (nim b h'); omega⟩)
    (by
      rintro b ((h | ⟨o, i, ho, _⟩) | h | h)
      · exact S.imn b h
      · cases ho
      · obtain ⟨o', i', k1, k2, k3⟩ := blkA b h
        exact .inr (S.own o' i' b k2 k3)
      · exact .inr (.inr (Nat.le_trans S1.chg.size h)))
    ⟨γ4, y.1, y.2, xs, rfl, H, S4.unext X3, rfl, rfl,
      (fun h => by
        rcases im4 D h with h | h
        · have := S.lt D h; omega
        · obtain ⟨o, i, _, h1, h2⟩ := own3 D h; have := blk_lt S h1 h2; omega),
      (fun h => by
        rcases im4 l h with h | h
        · have := S.lt l h; omega
        · obtain ⟨o, i, _, h1, h2⟩ := own3 l h; have := blk_lt S h1 h2; omega), hK1, hL1⟩
  refine ⟨l, [{ target := .collected D, args := #[] }], W1, { target := .fn (.func f0) a2, args := #[.func (.yield l) #[] #[]] }, W1, f0, #[.func (.yield l) #[] #[]] ++ a2, W1, ?_, ?_, fun f' _ => trivial, ?_, fun h => by simp [Fence.wide] at h, ?_⟩
  · rw [← hW1, ← hl0, ← hD0]; exact run_enterLoop_outer _ _ _ _ _
  · simp only [resolve, hev]
    simp [go_sem]
  · simp [invoke, go_sem, run_callFunc hbod]
  · refine callsIn_wide.2 (callsIn_wide.1 (CallsIn.mono hcalls ?_))
    have tail : ∀ (γ4 : Gh) (sl4 : SL) (ob4 : OB) (lo : Loop) (CH PR : Nat → Prop) (W : World) (o : Out), JS C' a.tmps D l lo γ4 sl4 ob4 CH PR W → K o sl4 ob4 = some r → ∀ lo', Post C T M K (exitOf o) { a with defers := { target := .collected D, args := #[] } :: a.defers } (W.putObj l (.loop lo')) := by
      intro γ4 sl4 ob4 lo CH PR W o hJ hK lo'
      have ownl : ¬ ownB γ4 l := fun h => by obtain ⟨cs, t, fr, e⟩ := own_cells hJ.st h; rw [hJ.hl] at e; cases e
      have ownD : ¬ ownB γ4 D := fun h => by obtain ⟨cs, t, fr, e⟩ := own_cells hJ.st h; rw [hJ.hD] at e; cases e
      have hDW := (Array.getElem?_eq_some_iff.1 hJ.hD).1
      have q2 : ∀ b, b < W.heap.size → b = l → ¬ γ4.im b ∧ ¬ ownB γ4 b := fun b _ e => by subst e; exact ⟨hJ.iml, ownl⟩
      have hc4 : Chg (fun b => b = l) W (W.putObj l (.loop lo')) := Chg.put _ _ _
      refine ⟨hs, o, sl4, ob4, γ4, r, rfl, hK, C'.re γ4 (W.putObj l (.loop lo')) C'.kp, hf, hg, ?_, hJ.st.rebase C'.kp hc4 q2⟩
      refine hRt C' a.defers r sl4 sl4 γ4 W _ a.tmps ob4 (fun b => b = l) D (hT _ _ _ _ _ (fun h => by rw [hyp] at h; cases h) hTT) hJ.st hc4 (fun b hb e => by omega) q2 (by rw [World.putObj_size]; exact hDW) ownD hJ.imD (by omega) ((World.putObj_heap_other (by omega)).trans hJ.hD)
    rintro e w' ⟨⟨v, rfl⟩, ⟨CH, PR, γ4, sl4, ob4, rest, h1, h2, h3⟩ | ⟨CH, PR, γ4, sl4, ob4, o, cj, h1, h2, h3⟩⟩
    · have hr : rest = [] := by
        have := congrArg List.length h1
        simp at this
        exact this
      subst hr
      exact ⟨none, _, run_endLoop h3.hl (by simp [recO]), tail γ4 sl4 ob4 _ CH PR w' .norm h3 h2 _⟩
    · refine ⟨some cj, _, run_endLoop h3.hl (by simp [recO]), ?_⟩
      have := tail γ4 sl4 ob4 _ CH PR w' o h3 h2 (recO fn a.tmps ps as c D .exhausted (some cj))
      cases o with
      | norm => cases h1
      | exit id => injection h1 with h1; subst h1; exact wpIn_exit this
      | goto t => injection h1 with h1; subst h1; exact wpIn_goto this
      | ret => injection h1 with h1; subst h1; exact wpIn_ret this
end
end
section
open Go
structure FinG (γ γ' : Gh) (m : Nat) (hd : List Nat) : Prop where
  mu : ∀ o i, o < m → γ.mu o = some i → γ'.mu o = some i
  q : ∀ g b, γ.q g b → γ'.q g b
  im : ∀ o i b, m ≤ o → o ∉ hd → γ.mu o = some i → i.blk = some b → ∀ g, γ'.q g b
section
variable {C : Ctx} {γ γ' : Gh} {w : World} {act : Act} {sl : SL} {ob : OB} {m : Nat} {hd : List Nat}
theorem sea_sl (S : St C γ w act.tmps sl ob) (F : FinG γ γ' m hd) {o ver lo n : Nat} {cs : Array Value} {off : Nat} {r : Bool × List (List PV)} (hm : m ≤ o) (hr : o ∉ hd) (H : RAt C.fid γ w.heap cs off (.sl o ver lo n)) (hc : contX (getO ob o) ver lo n = some r) :
    RAt C.fid γ' w.heap cs off (.l r.1 r.2) := by
  simp only [RAt] at H
  obtain ⟨i, hi, hv, a, c, e, hh⟩ := H
  have hsl : RV C.fid γ w.heap (.slice a n c) (.sl o ver lo n) := RV_sl.2 ⟨i, hi, hv, a, c, rfl, hh⟩
  obtain ⟨⟨a', c', e', hlc, hS⟩, hlen⟩ := contX_ok S hsl hc
  injection e' with e1 e2 e3; subst e1; subst e3
  simp only [RAt, PAt]
  refine ⟨a, c, by rw [hlen]; exact e, hlc, ?_⟩
  rcases Nat.eq_zero_or_pos n with h0 | hpos
  · exact .inl (List.length_eq_zero_iff.1 (hlen.trans h0))
  refine hS.imp id ?_
  rintro ⟨b, o', w', cs', ea, hrow, hE⟩
  have hbk : i.blk = some b := by
    cases hx : getO ob o with
    | none => simp [hx, contX] at hc
    | some x =>
      rw [hx] at hc
      obtain ⟨i', hi', h1, _⟩ := S.obj o x hx
      rw [hi] at hi'; injection hi' with hi'; subst hi'
      have hver : x.ver = ver := by
        simp only [contX] at hc
        split at hc
        · rename_i h; exact h.2.1
        · cases hc
      obtain ⟨g1, g2, g3⟩ := hh (by omega)
      obtain ⟨b', hb', ea'⟩ := g3 (by omega)
      rw [ea] at ea'; injection ea' with ea'; injection ea' with ea' _; rw [ea']; exact hb'
  exact ⟨b, o', w', cs', ea, F.im o i b hm hr hi hbk _, hrow, PEls_mono (fun b hb => ⟨F.q _ b hb, rfl⟩) _ _ _ _ hE⟩
theorem sea_bs (S : St C γ w act.tmps sl ob) (F : FinG γ γ' m hd) {o o' lo n : Nat} {cs : Array Value} {off : Nat} {r : Bool × List (List PV)} (hm : m ≤ o) (hr : o ∉ hd) (H : RAt C.fid γ w.heap cs off (.bs o o' lo n)) (hc : contL ob (.bs o o' lo n) = some r) :
    RAt C.fid γ' w.heap cs off (.l true r.2) := by
  simp only [RAt] at H
  obtain ⟨i, hi, a, c, e, hn, hh⟩ := H
  have hbs : RV C.fid γ w.heap (.slice (some a) n c) (.bs o o' lo n) := RV_bs.2 ⟨i, hi, a, c, rfl, hn, hh⟩
  have hrt : r.1 = true := by
    simp only [contL, contB] at hc
    split at hc
    · rename_i xs he
      split at hc
      · injection hc with hc; rw [← hc]
      · cases hc
    · cases hc
  obtain ⟨a', c', e', hlc, hS⟩ := contL_ok S hbs hc
  injection e' with e1 e2 e3; subst e1; subst e3
  simp only [RAt, PAt]
  refine ⟨some a, c, by rw [← e2]; exact e, hlc, ?_⟩
  rcases Nat.eq_zero_or_pos n with h0 | hpos
  · exact .inl (List.length_eq_zero_iff.1 (e2.symm.trans h0))
  refine hS.imp id ?_
  rintro ⟨b, o2, w', cs', ea, hrow, hE⟩
  have hver : i.ver = 0 := by
    cases hr : atO (getO ob o) 0 0 o' with
    | none => simp [contL, hr, blobAt, contB] at hc
    | some cells =>
      cases ho : getO ob o with
      | none => simp [ho, atO] at hr
      | some X =>
        simp only [ho, atO] at hr
        split at hr
        · rename_i hver
          obtain ⟨I', hI', h1, _⟩ := S.obj o X ho
          rw [hi] at hI'; injection hI' with hI'; subst hI'
          omega
        · cases hr
  obtain ⟨b', hb', ea'⟩ := hh hver.symm (by omega)
  injection ea with ea
  have hbb : b' = b := by rw [ea] at ea'; injection ea' with h1 _; exact h1.symm
  subst hbb
  rw [hrt] at hE
  exact ⟨b', o2, w', cs', by rw [ea], F.im o i b' hm hr hi hb' _, hrow, PEls_mono (fun b hb => ⟨F.q _ b hb, rfl⟩) _ _ _ _ hE⟩
mutual
theorem sea_ok (S : St C γ w act.tmps sl ob) (F : FinG γ γ' m hd) : ∀ (v : PV) {v' : PV} {cs : Array Value} {off : Nat}, sea m ob v = some v' → (∀ o ∈ refs v, o ∉ hd) → RAt C.fid γ w.heap cs off v → RAt C.fid γ' w.heap cs off v' ∧ wd v' = wd v ∧ (cellV v = true → cellV v' = true)
  | .b _, v', cs, off, H, _, hr | .i _ _, v', cs, off, H, _, hr | .s _, v', cs, off, H, _, hr | .blob _ _, v', cs, off, H, _, hr | .np, v', cs, off, H, _, hr | .nf, v', cs, off, H, _, hr => by
    simp only [sea, Option.some.injEq] at H; subst H
    exact ⟨by simpa only [RAt] using hr, rfl, id⟩
  | .l g xs, v', cs, off, H, _, hr => by
    simp only [sea, Option.some.injEq] at H; subst H
    refine ⟨?_, rfl, id⟩
    simp only [RAt] at hr ⊢
    exact PAt_mono (fun b hb => ⟨F.q _ b hb, rfl⟩) _ _ _ hr
  | .ln g xs, v', cs, off, H, _, hr => by
    simp only [sea, Option.some.injEq] at H; subst H
    refine ⟨?_, rfl, fun _ => rfl⟩
    simp only [RAt] at hr ⊢
    exact PAt_mono (fun b hb => ⟨F.q _ b hb, rfl⟩) _ _ _ hr.1
  | .e nil, v', cs, off, H, _, hr => by
    simp only [sea, Option.some.injEq] at H; subst H
    refine ⟨?_, rfl, fun _ => rfl⟩
    simp only [RAt, PAt] at hr ⊢
    obtain ⟨a, e, _⟩ := hr
    exact ⟨a, 0, e, Nat.zero_le _, .inl trivial⟩
  | .sl o ver lo n, v', cs, off, H, hd, hr => by
    simp only [sea] at H
    split at H
    · rename_i hm
      cases hc : contX (getO ob o) ver lo n with
      | none => simp [hc] at H
      | some r =>
        simp only [hc, Option.map_some, Option.some.injEq] at H; subst H
        exact ⟨sea_sl S F hm (hd o (by simp [refs])) hr hc, rfl, fun _ => rfl⟩
    · rename_i hm
      simp only [Option.some.injEq] at H; subst H
      refine ⟨?_, rfl, id⟩
      simp only [RAt] at hr ⊢
      obtain ⟨i, hi, h1⟩ := hr
      exact ⟨i, F.mu o i (by omega) hi, h1⟩
  | .bs o o' lo n, v', cs, off, H, hd, hr => by
    simp only [sea] at H
    split at H
    · rename_i hm
      cases hc : contL ob (.bs o o' lo n) with
      | none => simp [hc] at H
      | some r =>
        simp only [hc, Option.map_some, Option.some.injEq] at H; subst H
        exact ⟨sea_bs S F hm (hd o (by simp [refs])) hr hc, rfl, fun _ => rfl⟩
    · rename_i hm
      simp only [Option.some.injEq] at H; subst H
      refine ⟨?_, rfl, id⟩
      simp only [RAt] at hr ⊢
      obtain ⟨i, hi, h1⟩ := hr
      exact ⟨i, F.mu o i (by omega) hi, h1⟩
  | .p o ver j o' bi, v', cs, off, H, _, hr => by
    simp only [sea] at H
    split at H
    · rename_i hm
      simp only [Option.some.injEq] at H; subst H
      refine ⟨?_, rfl, id⟩
      simp only [RAt] at hr ⊢
      obtain ⟨i, hi, h1⟩ := hr
      exact ⟨i, F.mu o i hm hi, h1⟩
    · cases H
  | .q g xs bi, v', cs, off, H, _, hr => by
    simp only [sea, Option.some.injEq] at H; subst H
    refine ⟨?_, rfl, id⟩
    simp only [RAt] at hr ⊢
    obtain ⟨b, o, cs', e, hb, hrow, hc⟩ := hr
    exact ⟨b, o, cs', e, F.q _ b hb, hrow, PCells_mono (fun b hb => ⟨F.q _ b hb, rfl⟩) _ _ _ hc⟩
  | .agg xs, v', cs, off, H, hd, hr => by
    simp only [sea] at H
    cases hx : seaL m ob xs with
    | none => simp [hx] at H
    | some xs' =>
      simp only [hx, Option.map_some, Option.some.injEq] at H; subst H
      simp only [RAt] at hr ⊢
      obtain ⟨arr, e, hs, hR⟩ := hr
      obtain ⟨h1, h2⟩ := seaC_ok S F xs hx (by simpa only [refs] using hd) hR
      exact ⟨⟨arr, e, by rw [h2]; exact hs, h1⟩, rfl, fun h => by simp [cellV] at h⟩
  | .fn k fs cap, v', cs, off, H, hd, hr => by
    simp only [sea] at H
    cases hx : seaL m ob fs with
    | none => simp [hx] at H
    | some fs' =>
      cases hy : seaL m ob cap with
      | none => simp [hx, hy] at H
      | some cap' =>
        simp only [hx, hy, Option.some.injEq] at H; subst H
        simp only [RAt] at hr ⊢
        simp only [refs] at hd
        obtain ⟨f0, a1, a2, e, ef, ⟨s1, H1⟩, s2, H2⟩ := hr
        obtain ⟨g1, g2⟩ := seaL_ok S F fs hx (fun o ho => hd o (List.mem_append_left _ ho)) H1
        obtain ⟨g3, g4⟩ := seaL_ok S F cap hy (fun o ho => hd o (List.mem_append_right _ ho)) H2
        exact ⟨⟨f0, a1, a2, e, ef, ⟨by rw [g2]; exact s1, g1⟩, by rw [g4]; exact s2, g3⟩, rfl, fun _ => rfl⟩
  | .tup _, v', cs, off, H, _, hr => by simp [sea] at H
  | .un, v', cs, off, H, _, hr => by simp [sea] at H
  | .ub, v', cs, off, H, _, hr => by simp [sea] at H
  | .y .., v', cs, off, H, _, hr => by simp [sea] at H
theorem seaC_ok (S : St C γ w act.tmps sl ob) (F : FinG γ γ' m hd) : ∀ (l : List PV) {l' : List PV} {cs : Array Value} {off : Nat}, seaL m ob l = some l' → (∀ o ∈ refsL l, o ∉ hd) → RCells C.fid γ w.heap cs off l → RCells C.fid γ' w.heap cs off l' ∧ wds l' = wds l
  | [], l', cs, off, H, _, hr => by
    simp only [seaL, Option.some.injEq] at H; subst H
    exact ⟨by simp only [RCells], rfl⟩
  | v :: r, l', cs, off, H, hd, hr => by
    simp only [seaL] at H
    split at H
    · rename_i a b ha hb
      simp only [Option.some.injEq] at H; subst H
      simp only [RCells] at hr
      simp only [refsL] at hd
      obtain ⟨h1, h2, h3⟩ := sea_ok S F v ha (fun o ho => hd o (List.mem_append_left _ ho)) hr.1.2
      obtain ⟨g1, g2⟩ := seaC_ok S F r hb (fun o ho => hd o (List.mem_append_right _ ho)) hr.2
      exact ⟨by simp only [RCells]; exact ⟨⟨h3 hr.1.1, h1⟩, by rw [h2]; exact g1⟩, by simp only [wds, h2, g2]⟩
    · cases H
theorem seaL_ok (S : St C γ w act.tmps sl ob) (F : FinG γ γ' m hd) : ∀ (l : List PV) {l' : List PV} {cs : Array Value} {off : Nat}, seaL m ob l = some l' → (∀ o ∈ refsL l, o ∉ hd) → RL C.fid γ w.heap cs off l → RL C.fid γ' w.heap cs off l' ∧ l'.length = l.length
  | [], l', cs, off, H, _, hr => by
    simp only [seaL, Option.some.injEq] at H; subst H
    exact ⟨by simp only [RL], rfl⟩
  | v :: r, l', cs, off, H, hd, hr => by
    simp only [seaL] at H
    split at H
    · rename_i a b ha hb
      simp only [Option.some.injEq] at H; subst H
      simp only [RL] at hr
      simp only [refsL] at hd
      obtain ⟨⟨x, hx, hr1⟩, hr2⟩ := hr
      obtain ⟨h1, h2, h3⟩ := sea_ok S F v ha (fun o ho => hd o (List.mem_append_left _ ho)) hr1
      obtain ⟨g1, g2⟩ := seaL_ok S F r hb (fun o ho => hd o (List.mem_append_right _ ho)) hr2
      exact ⟨by simp only [RL]; exact ⟨⟨x, hx, h1⟩, g1⟩, by simp [g2]⟩
    · cases H
end
theorem seaEls_ok (S : St C γ w act.tmps sl ob) (F : FinG γ γ' m hd) : ∀ (l : List (List PV)) {l' : List (List PV)} {cs : Array Value} {w' off : Nat}, seaEls m ob l = some l' → (∀ o ∈ refsEls l, o ∉ hd) → REls C.fid γ w.heap cs w' off l → REls C.fid γ' w.heap cs w' off l' ∧ l'.length = l.length
  | [], l', cs, w', off, H, _, hr => by
    simp only [seaEls, Option.some.injEq] at H; subst H
    exact ⟨by simp only [REls], rfl⟩
  | x :: r, l', cs, w', off, H, hd, hr => by
    simp only [seaEls] at H
    split at H
    · rename_i a b ha hb
      simp only [Option.some.injEq] at H; subst H
      simp only [REls] at hr
      simp only [refsEls] at hd
      obtain ⟨h1, h2⟩ := seaC_ok S F x ha (fun o ho => hd o (List.mem_append_left _ ho)) hr.2.1
      obtain ⟨g1, g2⟩ := seaEls_ok S F r hb (fun o ho => hd o (List.mem_append_right _ ho)) hr.2.2
      exact ⟨by simp only [REls]; exact ⟨by rw [h2]; exact hr.1, h1, g1⟩, by simp [g2]⟩
    · cases H
theorem outX_ok (S : St C γ w act.tmps sl ob) (F : FinG γ γ' m hd) {k : Nat} {x : Obj'} (hx : outX m ob (getO ob k) = some x) (hd' : ∀ o ∈ refsX (getO ob k), o ∉ hd) :
    ∃ i y, γ.mu k = some i ∧ getO ob k = some y ∧ x.fro = y.fro ∧ ORel C.fid γ' w.heap x i := by
  cases hy : getO ob k with
  | none => simp [hy, outX] at hx
  | some y =>
    obtain ⟨i, hi, h1, h2, h3, h4⟩ := S.obj k y hy
    rw [hy] at hx hd'
    simp only [outX] at hx
    simp only [refsX] at hd'
    have hq : ∀ g b, γ.q g b → γ'.q g b ∧ w.heap[b]? = w.heap[b]? := fun g b hb => ⟨F.q g b hb, rfl⟩
    split at hx
    · rename_i hp
      injection hx with hx; subst hx
      refine ⟨i, y, hi, rfl, rfl, h1, h2, h3, ?_⟩
      cases hbk : i.blk with
      | none => simpa only [hbk] using h4
      | some b =>
        simp only [hbk] at h4 ⊢
        obtain ⟨g1, cs, g2, g3, g4⟩ := h4
        refine ⟨g1, cs, g2, g3, ?_⟩
        rcases g4 with ⟨g4, g5⟩ | ⟨g4, _⟩
        · exact .inl ⟨g4, PEls_mono (hq _) _ _ _ _ g5⟩
        · rw [hp] at g4; cases g4
    · rename_i hp
      cases he : seaEls m ob y.els with
      | none => simp [he] at hx
      | some es =>
        simp only [he, Option.map_some, Option.some.injEq] at hx; subst hx
        have hd2 : ∀ o ∈ refsEls y.els, o ∉ hd := by unfold refsO at hd'; rw [if_neg hp] at hd'; exact hd'
        cases hbk : i.blk with
        | none =>
          simp only [hbk] at h4
          have hl : y.els = [] := List.length_eq_zero_iff.1 (by omega)
          rw [hl] at he; simp only [seaEls, Option.some.injEq] at he; subst he
          exact ⟨i, y, hi, rfl, rfl, h1, h2, by simp, by simp only [hbk]; exact h4⟩
        | some b =>
          simp only [hbk] at h4
          obtain ⟨g1, cs, g2, g3, g4⟩ := h4
          rcases g4 with ⟨g4, _⟩ | ⟨g4, g5⟩
          · exact absurd g4 hp
          · obtain ⟨k1, k2⟩ := seaEls_ok S F y.els he hd2 g5
            exact ⟨i, y, hi, rfl, rfl, h1, h2, by rw [k2]; exact h3, by simp only [hbk]; exact ⟨g1, cs, g2, g3, .inr ⟨g4, k1⟩⟩⟩
theorem outOs_ok : ∀ (n k : Nat) (qs : List Obj'), outOs m ob k n = some qs → qs.length = n ∧ ∀ j x, qs[j]? = some x → outX m ob (getO ob (k + j)) = some x ∧ ∀ o ∈ refsX (getO ob (k + j)), o ∈ refsOuts ob k n
  | 0, k, qs, H => by
    simp only [outOs, Option.some.injEq] at H; subst H
    exact ⟨rfl, fun j x h => by simp at h⟩
  | n + 1, k, qs, H => by
    simp only [outOs] at H
    split at H
    · rename_i x r hx hr
      injection H with H; subst H
      obtain ⟨h1, h2⟩ := outOs_ok n (k + 1) r hr
      refine ⟨by simp [h1], fun j y hy => ?_⟩
      rcases j with _ | j
      · simp at hy; subst hy
        exact ⟨hx, fun o ho => by simp only [refsOuts]; exact List.mem_append_left _ ho⟩
      · obtain ⟨g1, g2⟩ := h2 j y (by simpa using hy)
        rw [show k + 1 + j = k + (j + 1) by omega] at g1 g2
        exact ⟨g1, fun o ho => by simp only [refsOuts]; exact List.mem_append_right _ (g2 o ho)⟩
    · cases H
def srcO (m : Nat) (ob : OB) (all : List Nat) : PV → List (Option Nat)
  | .e _ => [none]
  | .sl o ver lo n => if o < m then [] else if handX all o ver lo n (getO ob o) = true then [some o] else []
  | _ => []
def srcOs (m : Nat) (ob : OB) (all : List Nat) : List PV → List (Option Nat)
  | [] => []
  | v :: r => srcO m ob all v ++ srcOs m ob all r
theorem srcO_mem {all : List Nat} {v : PV} {o : Nat} (h : some o ∈ srcO m ob all v) : (∃ ver lo n, v = .sl o ver lo n ∧ m ≤ o ∧ handX all o ver lo n (getO ob o) = true) ∧ refs v = [o] ∧ srcO m ob all v = [some o] ∧ cntN o all = 1 := by
  unfold srcO at h
  split at h
  · simp at h
  · rename_i o' ver lo n
    split at h
    · simp at h
    · rename_i hm
      split at h
      · rename_i hh
        simp at h; subst h
        refine ⟨⟨ver, lo, n, rfl, by omega, hh⟩, rfl, by simp only [srcO]; rw [if_neg hm, if_pos hh], ?_⟩
        unfold handX at hh
        split at hh
        · simp only [Bool.and_eq_true, beq_iff_eq] at hh; exact hh.2
        · cases hh
      · simp at h
  · simp at h
theorem srcOs_mem {all : List Nat} {o : Nat} : ∀ {l : List PV}, some o ∈ srcOs m ob all l → ∃ v ∈ l, some o ∈ srcO m ob all v
  | v :: r, h => by
    simp only [srcOs, List.mem_append] at h
    rcases h with h | h
    · exact ⟨v, by simp, h⟩
    · obtain ⟨u, hu, h⟩ := srcOs_mem h
      exact ⟨u, List.mem_cons_of_mem _ hu, h⟩
theorem mem_refsL {o : Nat} {v : PV} : ∀ {l : List PV}, v ∈ l → o ∈ refs v → o ∈ refsL l
  | x :: r, h, ho => by
    simp only [refsL]
    rcases List.mem_cons.1 h with rfl | h
    · exact List.mem_append_left _ ho
    · exact List.mem_append_right _ (mem_refsL h ho)
theorem srcOs_refs {all : List Nat} {o : Nat} {l : List PV} (h : some o ∈ srcOs m ob all l) : o ∈ refsL l := by
  obtain ⟨v, hv, h⟩ := srcOs_mem h
  obtain ⟨_, hr, _⟩ := srcO_mem h
  have : o ∈ refs v := by rw [hr]; simp
  exact mem_refsL hv this
theorem srcOs_inj {all : List Nat} {o : Nat} : ∀ {l : List PV}, cntN o (refsL l) ≤ 1 → ∀ j k : Nat, (srcOs m ob all l)[j]? = some (some o) → (srcOs m ob all l)[k]? = some (some o) → j = k
  | [], _, j, k, hj, _ => by simp [srcOs] at hj
  | v :: r, hc, j, k, hj, hk => by
    simp only [refsL, cntN_app] at hc
    simp only [srcOs] at hj hk
    by_cases hin : some o ∈ srcO m ob all v
    · obtain ⟨_, hr, hs, _⟩ := srcO_mem hin
      rw [hr] at hc
      have h0 : cntN o (refsL r) = 0 := by simp [cntN] at hc; omega
      have hno : some o ∉ srcOs m ob all r := fun h => by have := cntN_pos (srcOs_refs h); omega
      rw [hs] at hj hk
      have h1 : ∀ j : Nat, ([some o] ++ srcOs m ob all r)[j]? = some (some o) → j = 0 := by
        intro j hj
        rcases j with _ | j
        · rfl
        · simp at hj; exact absurd (List.mem_of_getElem? hj) hno
      rw [h1 j hj, h1 k hk]
    · have h1 : ∀ j : Nat, (srcO m ob all v ++ srcOs m ob all r)[j]? = some (some o) → (srcO m ob all v).length ≤ j ∧ (srcOs m ob all r)[j - (srcO m ob all v).length]? = some (some o) := by
        intro j hj
        by_cases hl : j < (srcO m ob all v).length
        · rw [List.getElem?_append_left hl] at hj
          exact absurd (List.mem_of_getElem? hj) hin
        · rw [List.getElem?_append_right (by omega)] at hj
          exact ⟨by omega, hj⟩
      obtain ⟨a1, a2⟩ := h1 j hj
      obtain ⟨b1, b2⟩ := h1 k hk
      have := srcOs_inj (l := r) (by omega) _ _ a2 b2
      omega
def srcH (γ : Gh) (m : Nat) (L : List (Option Nat)) (k : Nat) : Option HI :=
  if k < m then γ.mu k else match L[k - m]? with
  | some none => some { ver := 0, blk := none, w := 0, tot := 0 }
  | some (some o) => (γ.mu o).map fun i => { i with ver := 0 }
  | none => none
theorem hand_ok (S : St C γ w act.tmps sl ob) (F : FinG γ γ' m hd) {all : List Nat} {o ver lo n : Nat} (hh : handX all o ver lo n (getO ob o) = true) :
    ∃ i x y, γ.mu o = some i ∧ getO ob o = some y ∧ y.fro = false ∧ rowX n (getO ob o) = [x] ∧ x.fro = false ∧ ORel C.fid γ' w.heap x { i with ver := 0 } ∧ ver = i.ver ∧ lo = 0 := by
  cases hy : getO ob o with
  | none => simp [hy, handX] at hh
  | some y =>
    rw [hy] at hh
    simp only [handX, Bool.and_eq_true, beq_iff_eq, Bool.not_eq_true', decide_eq_true_eq] at hh
    obtain ⟨⟨⟨⟨⟨hp, hf⟩, hv⟩, hlo⟩, hn⟩, hc⟩ := hh
    obtain ⟨i, hi, h1, h2, h3, h4⟩ := S.obj o y hy
    refine ⟨i, row (y.els.take n) y.w y.g, y, hi, rfl, hf, rfl, rfl, ⟨rfl, fun c h => by simp [row] at h, by simp [row]; omega, ?_⟩, by omega, hlo⟩
    cases hbk : i.blk with
    | none => simpa only [hbk] using h4
    | some b =>
      simp only [hbk] at h4 ⊢
      obtain ⟨g1, cs, g2, g3, g4⟩ := h4
      refine ⟨g1, cs, g2, g3, .inl ⟨rfl, ?_⟩⟩
      rcases g4 with ⟨_, g5⟩ | ⟨g4, _⟩
      · have := PEls_sub g5 0 n
        simp only [List.drop_zero, Nat.zero_mul, Nat.add_zero] at this
        exact PEls_mono (fun b hb => ⟨F.q _ b hb, rfl⟩) _ _ _ _ this
      · rw [hp] at g4; cases g4
theorem srcO_nil {all : List Nat} {nx wdt : Nat} {v : PV} {q : PV × List Obj'} (H : resO m ob all nx wdt v = some q) (hs : srcO m ob all v = []) : q.2 = [] ∧ ((∃ o ver lo n, v = .sl o ver lo n ∧ o < m ∧ q.1 = v) ∨ sea m ob v = some q.1) := by
  unfold srcO at hs
  split at hs
  · cases hs
  · rename_i o ver lo n
    split at hs
    · rename_i hm
      simp only [resO] at H
      rw [if_pos hm] at H; injection H with H; subst H
      exact ⟨rfl, .inl ⟨o, ver, lo, n, rfl, hm, rfl⟩⟩
    · rename_i hm
      split at hs
      · cases hs
      · rename_i hh
        simp only [resO] at H
        rw [if_neg hm, if_neg hh] at H
        cases hx : sea m ob (.sl o ver lo n) with
        | none => simp [hx] at H
        | some y => simp [hx] at H; subst H; exact ⟨rfl, .inr rfl⟩
  · rename_i h1 h2
    unfold resO at H
    split at H
    · exact absurd rfl (h1 _)
    · exact absurd rfl (h2 _ _ _ _)
    · cases hx : sea m ob v with
      | none => simp [hx] at H
      | some y => simp [hx] at H; subst H; exact ⟨rfl, .inr rfl⟩
theorem resOs_ok (S : St C γ w act.tmps sl ob) {all rest : List Nat} (F : FinG γ γ' m hd) {L : List (Option Nat)} (hmu : ∀ k, γ'.mu k = srcH γ m L k) :
    ∀ (vs : List PV) (pre : List PV) (rw : List Nat) (ws : List PV) (os : List Obj') (args : Array Value) (off : Nat), resOs m ob all (m + (srcOs m ob all pre).length) rw vs = some (ws, os) → all = refsL (pre ++ vs) ++ rest → L = srcOs m ob all (pre ++ vs) → (∀ o, o ∈ hd ↔ some o ∈ L) → RL C.fid γ w.heap args off vs →
      ws.length = vs.length ∧ os.length = (srcOs m ob all vs).length ∧ RL C.fid γ' w.heap args off ws ∧
      ∀ k x, os[k]? = some x → x.fro = false ∧ ∃ i, γ'.mu (m + (srcOs m ob all pre).length + k) = some i ∧ ORel C.fid γ' w.heap x i
  | [], pre, rw, ws, os, args, off, H, hall, hL, hh, hR => by
    simp only [resOs, Option.some.injEq, Prod.mk.injEq] at H
    obtain ⟨rfl, rfl⟩ := H
    exact ⟨rfl, rfl, by simp only [RL], fun k x h => by simp at h⟩
  | v :: r, pre, rw, ws, os, args, off, H, hall, hL, hh, hR => by
    simp only [resOs] at H
    split at H
    · rename_i w1 o1 h1
      split at H
      · rename_i ws2 os2 h2
        simp only [Option.some.injEq, Prod.mk.injEq] at H
        obtain ⟨rfl, rfl⟩ := H
        simp only [RL] at hR
        obtain ⟨⟨x, hx, hv⟩, hR⟩ := hR
        have app : ∀ a b : List PV, srcOs m ob all (a ++ b) = srcOs m ob all a ++ srcOs m ob all b := by
          intro a b
          induction a with
          | nil => rfl
          | cons y a ih => simp only [List.cons_append, srcOs, ih, List.append_assoc]
        have key : o1.length = (srcO m ob all v).length ∧ RAt C.fid γ' w.heap #[x] 0 w1 ∧ ∀ k y, o1[k]? = some y → y.fro = false ∧ ∃ i, γ'.mu (m + (srcOs m ob all pre).length + k) = some i ∧ ORel C.fid γ' w.heap y i := by
          have hat : ∀ k : Nat, k < (srcO m ob all v).length → L[(srcOs m ob all pre).length + k]? = (srcO m ob all v)[k]? := by
            intro k hk
            rw [hL, app, List.getElem?_append_right (by omega)]
            simp only [srcOs]
            rw [List.getElem?_append_left (by omega)]
            congr 1; omega
          have hmu' : ∀ k : Nat, k < (srcO m ob all v).length → γ'.mu (m + (srcOs m ob all pre).length + k) = match (srcO m ob all v)[k]? with
              | some none => some { ver := 0, blk := none, w := 0, tot := 0 }
              | some (some o) => (γ.mu o).map fun i => { i with ver := 0 }
              | none => none := by
            intro k hk
            rw [hmu, srcH, if_neg (by omega), show m + (srcOs m ob all pre).length + k - m = (srcOs m ob all pre).length + k by omega, hat k hk]
          cases hs : srcO m ob all v with
          | nil =>
            obtain ⟨g1, g2⟩ := srcO_nil h1 hs
            simp only at g1 g2
            subst g1
            refine ⟨rfl, ?_, fun k y h => by simp at h⟩
            rcases g2 with ⟨o, ver, lo, n, rfl, hm, rfl⟩ | g2
            · simp only [RAt] at hv ⊢
              obtain ⟨i, hi, q⟩ := hv
              exact ⟨i, F.mu o i hm hi, q⟩
            · refine (sea_ok S F v g2 (fun o ho hin => ?_) hv).1
              have hm := (hh o).1 hin
              rw [hL, app] at hm
              simp only [srcOs, hs, List.nil_append, List.mem_append] at hm
              have h1 : cntN o all = 1 := by
                rcases hm with hm | hm
                · obtain ⟨u, _, hu⟩ := srcOs_mem hm; exact (srcO_mem hu).2.2.2
                · obtain ⟨u, _, hu⟩ := srcOs_mem hm; exact (srcO_mem hu).2.2.2
              rw [hall, cntN_app, refsL_app, cntN_app] at h1
              simp only [refsL, cntN_app] at h1
              have p1 := cntN_pos ho
              rcases hm with hm | hm
              · have := cntN_pos (srcOs_refs hm); omega
              · have := cntN_pos (srcOs_refs hm); omega
          | cons s0 s1 =>
            have hs' := hs
            unfold srcO at hs
            split at hs
            · injection hs with e1 e2; subst e1; subst e2
              rename_i nil
              simp only [resO, Option.some.injEq, Prod.mk.injEq] at h1
              obtain ⟨rfl, rfl⟩ := h1
              have hm0 := hmu' 0 (by rw [hs']; simp)
              simp only [hs', List.getElem?_cons_zero] at hm0
              refine ⟨rfl, ?_, ?_⟩
              · simp only [RAt] at hv ⊢
                obtain ⟨a, e, _⟩ := hv
                exact ⟨_, by simpa using hm0, Nat.le_refl _, a, 0, e, fun _ => ⟨rfl, Nat.le_refl _, fun h => absurd h (Nat.lt_irrefl _)⟩⟩
              · intro k y hk
                rcases k with _ | k
                · simp at hk; subst hk
                  exact ⟨rfl, _, hm0, rfl, (fun c h => by simp [row] at h), by simp [row], rfl⟩
                · simp at hk
            · rename_i o ver lo n
              split at hs
              · cases hs
              · rename_i hm
                split at hs
                · rename_i hhd
                  injection hs with e1 e2; subst e1; subst e2
                  simp only [resO] at h1
                  rw [if_neg hm, if_pos hhd] at h1
                  simp only [Option.some.injEq, Prod.mk.injEq] at h1
                  obtain ⟨rfl, rfl⟩ := h1
                  obtain ⟨i, y, yy, hi, _, _, hy, hyf, hor, hvr, hlo⟩ := hand_ok S F hhd
                  have hm0 := hmu' 0 (by rw [hs']; simp)
                  simp only [hs', List.getElem?_cons_zero, hi, Option.map_some] at hm0
                  refine ⟨by rw [hy]; rfl, ?_, ?_⟩
                  · simp only [RAt] at hv ⊢
                    obtain ⟨i', hi', h5, a, c, e, h6⟩ := hv
                    rw [hi] at hi'; injection hi' with hi'; subst hi'
                    refine ⟨_, by simpa using hm0, Nat.le_refl _, a, c, e, fun _ => ?_⟩
                    obtain ⟨k1, k2, k3⟩ := h6 hvr
                    subst hlo
                    exact ⟨k1, k2, k3⟩
                  · intro k z hk
                    rw [hy] at hk
                    rcases k with _ | k
                    · simp at hk; subst hk
                      exact ⟨hyf, _, hm0, hor⟩
                    · simp at hk
                · cases hs
            · cases hs
        obtain ⟨k1, k2, k3⟩ := key
        have hlen : (srcOs m ob all (pre ++ [v])).length = (srcOs m ob all pre).length + o1.length := by rw [app]; simp [srcOs, k1]
        obtain ⟨g1, g2, g3, g4⟩ := resOs_ok S (rest := rest) F hmu r (pre ++ [v]) rw.tail ws2 os2 args (off + 1) (by rw [hlen, ← Nat.add_assoc]; exact h2) (by rw [hall]; simp) (by rw [hL]; simp) hh hR
        refine ⟨by simp [g1], by simp [srcOs, g2, k1], by simp only [RL]; exact ⟨⟨x, hx, k2⟩, g3⟩, fun k y hk => ?_⟩
        by_cases hlt : k < o1.length
        · rw [List.getElem?_append_left hlt] at hk; exact k3 k y hk
        · rw [List.getElem?_append_right (by omega)] at hk
          have := g4 _ y hk
          rw [hlen] at this
          rwa [show m + ((srcOs m ob all pre).length + o1.length) + (k - o1.length) = m + (srcOs m ob all pre).length + k by omega] at this
      · cases H
    · cases H
end
end
end Go.Proofs.YtmhpkdcnhgmblaaDoor
