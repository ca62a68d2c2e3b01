import Derived.Test.YtnkapponcbgbhaaDenS
import Derived.Test.YtnkapponcbgbhaaRangeT
set_option linter.all false
namespace Go.Proofs.Ytnkapponcbgbhaa
section
open Go
structure FinG (γ γ' : Gh) (m : Nat) (hd : List Nat) : Prop where
  mu : ∀ o i, o < m → γ.mu o = some i → γ'.mu o = some i
  q : ∀ g b, γ.q g b → γ'.q g b
  im : ∀ o i b, m ≤ o → o ∉ hd → γ.mu o = some i → i.blk = some b → ∀ g, γ'.q g b
section
variable {C : Ctx} {γ γ' : Gh} {w : World} {act : Act} {sl : SL} {ob : OB} {m : Nat} {hd : List Nat}
theorem sea_sl (S : St C γ w act.tmps sl ob) (F : FinG γ γ' m hd) {o ver lo n : Nat} {cs : Array Value} {off : Nat} {r : Bool × List (List PV)} (hm : m ≤ o) (hr : o ∉ hd) (H : RAt C.fid γ w.heap cs off (.sl o ver lo n)) (hc : contX (getO ob o) ver lo n = some r) :
    RAt C.fid γ' w.heap cs off (.l r.1 r.2) := by
  simp only [RAt] at H
  obtain ⟨i, hi, hv, a, c, e, hh⟩ := H
  have hsl : RV C.fid γ w.heap (.slice a n c) (.sl o ver lo n) := RV_sl.2 ⟨i, hi, hv, a, c, rfl, hh⟩
  obtain ⟨⟨a', c', e', hlc, hS⟩, hlen⟩ := contX_ok S hsl hc
  injection e' with e1 e2 e3; subst e1; subst e3
  simp only [RAt, PAt]
  refine ⟨a, c, by rw [hlen]; exact e, hlc, ?_⟩
  rcases Nat.eq_zero_or_pos n with h0 | hpos
  · exact .inl (List.length_eq_zero_iff.1 (hlen.trans h0))
  refine hS.imp id ?_
  rintro ⟨b, o', w', cs', ea, hrow, hE⟩
  have hbk : i.blk = some b := by
    cases hx : getO ob o with
    | none => simp [hx, contX] at hc
    | some x =>
      rw [hx] at hc
      obtain ⟨i', hi', h1, _⟩ := S.obj o x hx
      rw [hi] at hi'; injection hi' with hi'; subst hi'
      have hver : x.ver = ver := by
        simp only [contX] at hc
        split at hc
        · rename_i h; exact h.2.1
        · cases hc
      obtain ⟨g1, g2, g3⟩ := hh (by omega)
      obtain ⟨b', hb', ea'⟩ := g3 (by omega)
      rw [ea] at ea'; injection ea' with ea'; injection ea' with ea' _; rw [ea']; exact hb'
  exact ⟨b, o', w', cs', ea, F.im o i b hm hr hi hbk _, hrow, PEls_mono (fun b hb => ⟨F.q _ b hb, rfl⟩) _ _ _ _ hE⟩
theorem sea_bs (S : St C γ w act.tmps sl ob) (F : FinG γ γ' m hd) {o o' lo n : Nat} {cs : Array Value} {off : Nat} {r : Bool × List (List PV)} (hm : m ≤ o) (hr : o ∉ hd) (H : RAt C.fid γ w.heap cs off (.bs o o' lo n)) (hc : contL ob (.bs o o' lo n) = some r) :
    RAt C.fid γ' w.heap cs off (.l true r.2) := by
  simp only [RAt] at H
  obtain ⟨i, hi, a, c, e, hn, hh⟩ := H
  have hbs : RV C.fid γ w.heap (.slice (some a) n c) (.bs o o' lo n) := RV_bs.2 ⟨i, hi, a, c, rfl, hn, hh⟩
  have hrt : r.1 = true := by
    simp only [contL, contB] at hc
    split at hc
    · rename_i xs he
      split at hc
      · injection hc with hc; rw [← hc]
      · cases hc
    · cases hc
  obtain ⟨a', c', e', hlc, hS⟩ := contL_ok S hbs hc
  injection e' with e1 e2 e3; subst e1; subst e3
  simp only [RAt, PAt]
  refine ⟨some a, c, by rw [← e2]; exact e, hlc, ?_⟩
  rcases Nat.eq_zero_or_pos n with h0 | hpos
  · exact .inl (List.length_eq_zero_iff.1 (e2.symm.trans h0))
  refine hS.imp id ?_
  rintro ⟨b, o2, w', cs', ea, hrow, hE⟩
  have hver : i.ver = 0 := by
    cases hr : atO (getO ob o) 0 0 o' with
    | none => simp [contL, hr, blobAt, contB] at hc
    | some cells =>
      cases ho : getO ob o with
      | none => simp [ho, atO] at hr
      | some X =>
        simp only [ho, atO] at hr
        split at hr
        · rename_i hver
          obtain ⟨I', hI', h1, _⟩ := S.obj o X ho
          rw [hi] at hI'; injection hI' with hI'; subst hI'
          omega
        · cases hr
  obtain ⟨b', hb', ea'⟩ := hh hver.symm (by omega)
  injection ea with ea
  have hbb : b' = b := by rw [ea] at ea'; injection ea' with h1 _; exact h1.symm
  subst hbb
  rw [hrt] at hE
  exact ⟨b', o2, w', cs', by rw [ea], F.im o i b' hm hr hi hb' _, hrow, PEls_mono (fun b hb => ⟨F.q _ b hb, rfl⟩) _ _ _ _ hE⟩
mutual
theorem sea_ok (S : St C γ w act.tmps sl ob) (F : FinG γ γ' m hd) : ∀ (v : PV) {v' : PV} {cs : Array Value} {off : Nat}, sea m ob v = some v' → (∀ o ∈ refs v, o ∉ hd) → RAt C.fid γ w.heap cs off v → RAt C.fid γ' w.heap cs off v' ∧ wd v' = wd v ∧ (cellV v = true → cellV v' = true)
  | .b _, v', cs, off, H, _, hr | .i _ _, v', cs, off, H, _, hr | .s _, v', cs, off, H, _, hr | .blob _ _, v', cs, off, H, _, hr | .np, v', cs, off, H, _, hr | .ni, v', cs, off, H, _, hr | .nm, v', cs, off, H, _, hr | .nf, v', cs, off, H, _, hr => by
    simp only [sea, Option.some.injEq] at H; subst H
    exact ⟨by simpa only [RAt] using hr, rfl, id⟩
  | .l g xs, v', cs, off, H, _, hr => by
    simp only [sea, Option.some.injEq] at H; subst H
    refine ⟨?_, rfl, id⟩
    simp only [RAt] at hr ⊢
    exact PAt_mono (fun b hb => ⟨F.q _ b hb, rfl⟩) _ _ _ hr
  | .ln g xs, v', cs, off, H, _, hr => by
    simp only [sea, Option.some.injEq] at H; subst H
    refine ⟨?_, rfl, fun _ => rfl⟩
    simp only [RAt] at hr ⊢
    exact PAt_mono (fun b hb => ⟨F.q _ b hb, rfl⟩) _ _ _ hr.1
  | .e nil, v', cs, off, H, _, hr => by
    simp only [sea, Option.some.injEq] at H; subst H
    refine ⟨?_, rfl, fun _ => rfl⟩
    simp only [RAt, PAt] at hr ⊢
    obtain ⟨a, e, _⟩ := hr
    exact ⟨a, 0, e, Nat.zero_le _, .inl trivial⟩
  | .sl o ver lo n, v', cs, off, H, hd, hr => by
    simp only [sea] at H
    split at H
    · rename_i hm
      cases hc : contX (getO ob o) ver lo n with
      | none => simp [hc] at H
      | some r =>
        simp only [hc, Option.map_some, Option.some.injEq] at H; subst H
        exact ⟨sea_sl S F hm (hd o (by simp [refs])) hr hc, rfl, fun _ => rfl⟩
    · rename_i hm
      simp only [Option.some.injEq] at H; subst H
      refine ⟨?_, rfl, id⟩
      simp only [RAt] at hr ⊢
      obtain ⟨i, hi, h1⟩ := hr
      exact ⟨i, F.mu o i (by omega) hi, h1⟩
  | .bs o o' lo n, v', cs, off, H, hd, hr => by
    simp only [sea] at H
    split at H
    · rename_i hm
      cases hc : contL ob (.bs o o' lo n) with
      | none => simp [hc] at H
      | some r =>
        simp only [hc, Option.map_some, Option.some.injEq] at H; subst H
        exact ⟨sea_bs S F hm (hd o (by simp [refs])) hr hc, rfl, fun _ => rfl⟩
    · rename_i hm
      simp only [Option.some.injEq] at H; subst H
      refine ⟨?_, rfl, id⟩
      simp only [RAt] at hr ⊢
      obtain ⟨i, hi, h1⟩ := hr
      exact ⟨i, F.mu o i (by omega) hi, h1⟩
  | .p o ver j o' bi, v', cs, off, H, _, hr => by
    simp only [sea] at H
    split at H
    · rename_i hm
      simp only [Option.some.injEq] at H; subst H
      refine ⟨?_, rfl, id⟩
      simp only [RAt] at hr ⊢
      obtain ⟨i, hi, h1⟩ := hr
      exact ⟨i, F.mu o i hm hi, h1⟩
    · cases H
  | .q g xs bi, v', cs, off, H, _, hr => by
    simp only [sea, Option.some.injEq] at H; subst H
    refine ⟨?_, rfl, id⟩
    simp only [RAt] at hr ⊢
    obtain ⟨b, o, cs', e, hb, hrow, hc⟩ := hr
    exact ⟨b, o, cs', e, F.q _ b hb, hrow, PCells_mono (fun b hb => ⟨F.q _ b hb, rfl⟩) _ _ _ hc⟩
  | .agg xs, v', cs, off, H, hd, hr => by
    simp only [sea] at H
    cases hx : seaL m ob xs with
    | none => simp [hx] at H
    | some xs' =>
      simp only [hx, Option.map_some, Option.some.injEq] at H; subst H
      simp only [RAt] at hr ⊢
      obtain ⟨arr, e, hs, hR⟩ := hr
      obtain ⟨h1, h2⟩ := seaC_ok S F xs hx (by simpa only [refs] using hd) hR
      exact ⟨⟨arr, e, by rw [h2]; exact hs, h1⟩, rfl, fun h => by simp [cellV] at h⟩
  | .fn k fs cap, v', cs, off, H, hd, hr => by
    simp only [sea] at H
    cases hx : seaL m ob fs with
    | none => simp [hx] at H
    | some fs' =>
      cases hy : seaL m ob cap with
      | none => simp [hx, hy] at H
      | some cap' =>
        simp only [hx, hy, Option.some.injEq] at H; subst H
        simp only [RAt] at hr ⊢
        simp only [refs] at hd
        obtain ⟨f0, a1, a2, e, ef, ⟨s1, H1⟩, s2, H2⟩ := hr
        obtain ⟨g1, g2⟩ := seaL_ok S F fs hx (fun o ho => hd o (List.mem_append_left _ ho)) H1
        obtain ⟨g3, g4⟩ := seaL_ok S F cap hy (fun o ho => hd o (List.mem_append_right _ ho)) H2
        exact ⟨⟨f0, a1, a2, e, ef, ⟨by rw [g2]; exact s1, g1⟩, by rw [g4]; exact s2, g3⟩, rfl, fun _ => rfl⟩
  | .tup _, v', cs, off, H, _, hr => by simp [sea] at H
  | .un, v', cs, off, H, _, hr => by simp [sea] at H
  | .ub, v', cs, off, H, _, hr => by simp [sea] at H
  | .y .., v', cs, off, H, _, hr => by simp [sea] at H
  | .pan _, v', cs, off, H, _, hr => by simp [sea] at H
  | .m o, v', cs, off, H, _, hr => by
    simp only [sea] at H
    split at H
    · rename_i hm
      simp only [Option.some.injEq] at H; subst H
      refine ⟨?_, rfl, id⟩
      simp only [RAt] at hr ⊢
      obtain ⟨i, hi, h1⟩ := hr
      exact ⟨i, F.mu o i hm hi, h1⟩
    · cases H
  | .ifc t v, v', cs, off, H, hd, hr => by
    simp only [sea] at H
    cases hx : sea m ob v with
    | none => simp [hx] at H
    | some u =>
      simp only [hx, Option.map_some, Option.some.injEq] at H; subst H
      simp only [RAt] at hr ⊢
      obtain ⟨x, e, hR⟩ := hr
      exact ⟨⟨x, e, (sea_ok S F v hx (by simpa only [refs] using hd) hR).1⟩, rfl, fun _ => rfl⟩
theorem seaC_ok (S : St C γ w act.tmps sl ob) (F : FinG γ γ' m hd) : ∀ (l : List PV) {l' : List PV} {cs : Array Value} {off : Nat}, seaL m ob l = some l' → (∀ o ∈ refsL l, o ∉ hd) → RCells C.fid γ w.heap cs off l → RCells C.fid γ' w.heap cs off l' ∧ wds l' = wds l
  | [], l', cs, off, H, _, hr => by
    simp only [seaL, Option.some.injEq] at H; subst H
    exact ⟨by simp only [RCells], rfl⟩
  | v :: r, l', cs, off, H, hd, hr => by
    simp only [seaL] at H
    split at H
    · rename_i a b ha hb
      simp only [Option.some.injEq] at H; subst H
      simp only [RCells] at hr
      simp only [refsL] at hd
      obtain ⟨h1, h2, h3⟩ := sea_ok S F v ha (fun o ho => hd o (List.mem_append_left _ ho)) hr.1.2
      obtain ⟨g1, g2⟩ := seaC_ok S F r hb (fun o ho => hd o (List.mem_append_right _ ho)) hr.2
      exact ⟨by simp only [RCells]; exact ⟨⟨h3 hr.1.1, h1⟩, by rw [h2]; exact g1⟩, by simp only [wds, h2, g2]⟩
    · cases H
theorem seaL_ok (S : St C γ w act.tmps sl ob) (F : FinG γ γ' m hd) : ∀ (l : List PV) {l' : List PV} {cs : Array Value} {off : Nat}, seaL m ob l = some l' → (∀ o ∈ refsL l, o ∉ hd) → RL C.fid γ w.heap cs off l → RL C.fid γ' w.heap cs off l' ∧ l'.length = l.length
  | [], l', cs, off, H, _, hr => by
    simp only [seaL, Option.some.injEq] at H; subst H
    exact ⟨by simp only [RL], rfl⟩
  | v :: r, l', cs, off, H, hd, hr => by
    simp only [seaL] at H
    split at H
    · rename_i a b ha hb
      simp only [Option.some.injEq] at H; subst H
      simp only [RL] at hr
      simp only [refsL] at hd
      obtain ⟨⟨x, hx, hr1⟩, hr2⟩ := hr
      obtain ⟨h1, h2, h3⟩ := sea_ok S F v ha (fun o ho => hd o (List.mem_append_left _ ho)) hr1
      obtain ⟨g1, g2⟩ := seaL_ok S F r hb (fun o ho => hd o (List.mem_append_right _ ho)) hr2
      exact ⟨by simp only [RL]; exact ⟨⟨x, hx, h1⟩, g1⟩, by simp [g2]⟩
    · cases H
end
theorem seaEls_ok (S : St C γ w act.tmps sl ob) (F : FinG γ γ' m hd) : ∀ (l : List (List PV)) {l' : List (List PV)} {cs : Array Value} {w' off : Nat}, seaEls m ob l = some l' → (∀ o ∈ refsEls l, o ∉ hd) → REls C.fid γ w.heap cs w' off l → REls C.fid γ' w.heap cs w' off l' ∧ l'.length = l.length
  | [], l', cs, w', off, H, _, hr => by
    simp only [seaEls, Option.some.injEq] at H; subst H
    exact ⟨by simp only [REls], rfl⟩
  | x :: r, l', cs, w', off, H, hd, hr => by
    simp only [seaEls] at H
    split at H
    · rename_i a b ha hb
      simp only [Option.some.injEq] at H; subst H
      simp only [REls] at hr
      simp only [refsEls] at hd
      obtain ⟨h1, h2⟩ := seaC_ok S F x ha (fun o ho => hd o (List.mem_append_left _ ho)) hr.2.1
      obtain ⟨g1, g2⟩ := seaEls_ok S F r hb (fun o ho => hd o (List.mem_append_right _ ho)) hr.2.2
      exact ⟨by simp only [REls]; exact ⟨by rw [h2]; exact hr.1, h1, g1⟩, by simp [g2]⟩
    · cases H
theorem outX_ok (S : St C γ w act.tmps sl ob) (F : FinG γ γ' m hd) {k : Nat} {x : Obj'} (hx : outX m ob (getO ob k) = some x) (hd' : ∀ o ∈ refsX (getO ob k), o ∉ hd) :
    ∃ i y, γ.mu k = some i ∧ getO ob k = some y ∧ x.fro = y.fro ∧ ORel C.fid γ' w.heap x i := by
  cases hy : getO ob k with
  | none => simp [hy, outX] at hx
  | some y =>
    obtain ⟨i, hi, h1, h2, h3, h4⟩ := S.obj k y hy
    rw [hy] at hx hd'
    simp only [outX] at hx
    simp only [refsX] at hd'
    have hq : ∀ g b, γ.q g b → γ'.q g b ∧ w.heap[b]? = w.heap[b]? := fun g b hb => ⟨F.q g b hb, rfl⟩
    split at hx
    · rename_i hp
      injection hx with hx; subst hx
      refine ⟨i, y, hi, rfl, rfl, h1, h2, h3, ?_⟩
      cases hbk : i.blk with
      | none => simpa only [hbk] using h4
      | some b =>
        simp only [hbk] at h4 ⊢
        obtain ⟨g1, cs, g2, g3, g4⟩ := h4
        refine ⟨g1, cs, g2, g3, ?_⟩
        rcases g4 with ⟨g4, g5⟩ | ⟨g4, _⟩
        · exact .inl ⟨g4, PEls_mono (hq _) _ _ _ _ g5⟩
        · rw [hp] at g4; cases g4
    · rename_i hp
      cases he : seaEls m ob y.els with
      | none => simp [he] at hx
      | some es =>
        simp only [he, Option.map_some, Option.some.injEq] at hx; subst hx
        have hd2 : ∀ o ∈ refsEls y.els, o ∉ hd := by unfold refsO at hd'; rw [if_neg hp] at hd'; exact hd'
        cases hbk : i.blk with
        | none =>
          simp only [hbk] at h4
          have hl : y.els = [] := List.length_eq_zero_iff.1 (by omega)
          rw [hl] at he; simp only [seaEls, Option.some.injEq] at he; subst he
          exact ⟨i, y, hi, rfl, rfl, h1, h2, by simp, by simp only [hbk]; exact h4⟩
        | some b =>
          simp only [hbk] at h4
          obtain ⟨g1, cs, g2, g3, g4⟩ := h4
          rcases g4 with ⟨g4, _⟩ | ⟨g4, g5⟩
          · exact absurd g4 hp
          · obtain ⟨k1, k2⟩ := seaEls_ok S F y.els he hd2 g5
            exact ⟨i, y, hi, rfl, rfl, h1, h2, by rw [k2]; exact h3, by simp only [hbk]; exact ⟨g1, cs, g2.els (y := { y with els := es }) rfl rfl (fun e => List.length_eq_zero_iff.1 (by rw [k2, e]; rfl)), g3, .inr ⟨g4, k1⟩⟩⟩
theorem outOs_ok : ∀ (n k : Nat) (qs : List Obj'), outOs m ob k n = some qs → qs.length = n ∧ ∀ j x, qs[j]? = some x → outX m ob (getO ob (k + j)) = some x ∧ ∀ o ∈ refsX (getO ob (k + j)), o ∈ refsOuts ob k n
  | 0, k, qs, H => by
    simp only [outOs, Option.some.injEq] at H; subst H
    exact ⟨rfl, fun j x h => by simp at h⟩
  | n + 1, k, qs, H => by
    simp only [outOs] at H
    split at H
    · rename_i x r hx hr
      injection H with H; subst H
      obtain ⟨h1, h2⟩ := outOs_ok n (k + 1) r hr
      refine ⟨by simp [h1], fun j y hy => ?_⟩
      rcases j with _ | j
      · simp at hy; subst hy
        exact ⟨hx, fun o ho => by simp only [refsOuts]; exact List.mem_append_left _ ho⟩
      · obtain ⟨g1, g2⟩ := h2 j y (by simpa using hy)
        rw [show k + 1 + j = k + (j + 1) by omega] at g1 g2
        exact ⟨g1, fun o ho => by simp only [refsOuts]; exact List.mem_append_right _ (g2 o ho)⟩
    · cases H
def srcO (m : Nat) (ob : OB) (all : List Nat) : PV → List (Option Nat)
  | .e _ => [none]
  | .sl o ver lo n => if o < m then [] else if handX all o ver lo n (getO ob o) = true then [some o] else []
  | _ => []
def srcOs (m : Nat) (ob : OB) (all : List Nat) : List PV → List (Option Nat)
  | [] => []
  | v :: r => srcO m ob all v ++ srcOs m ob all r
theorem srcO_mem {all : List Nat} {v : PV} {o : Nat} (h : some o ∈ srcO m ob all v) : (∃ ver lo n, v = .sl o ver lo n ∧ m ≤ o ∧ handX all o ver lo n (getO ob o) = true) ∧ refs v = [o] ∧ srcO m ob all v = [some o] ∧ cntN o all = 1 := by
  unfold srcO at h
  split at h
  · simp at h
  · rename_i o' ver lo n
    split at h
    · simp at h
    · rename_i hm
      split at h
      · rename_i hh
        simp at h; subst h
        refine ⟨⟨ver, lo, n, rfl, by omega, hh⟩, rfl, by simp only [srcO]; rw [if_neg hm, if_pos hh], ?_⟩
        unfold handX at hh
        split at hh
        · simp only [Bool.and_eq_true, beq_iff_eq] at hh; exact hh.2
        · cases hh
      · simp at h
  · simp at h
theorem srcOs_mem {all : List Nat} {o : Nat} : ∀ {l : List PV}, some o ∈ srcOs m ob all l → ∃ v ∈ l, some o ∈ srcO m ob all v
  | v :: r, h => by
    simp only [srcOs, List.mem_append] at h
    rcases h with h | h
    · exact ⟨v, by simp, h⟩
    · obtain ⟨u, hu, h⟩ := srcOs_mem h
      exact ⟨u, List.mem_cons_of_mem _ hu, h⟩
theorem mem_refsL {o : Nat} {v : PV} : ∀ {l : List PV}, v ∈ l → o ∈ refs v → o ∈ refsL l
  | x :: r, h, ho => by
    simp only [refsL]
    rcases List.mem_cons.1 h with rfl | h
    · exact List.mem_append_left _ ho
    · exact List.mem_append_right _ (mem_refsL h ho)
theorem srcOs_refs {all : List Nat} {o : Nat} {l : List PV} (h : some o ∈ srcOs m ob all l) : o ∈ refsL l := by
  obtain ⟨v, hv, h⟩ := srcOs_mem h
  obtain ⟨_, hr, _⟩ := srcO_mem h
  have : o ∈ refs v := by rw [hr]; simp
  exact mem_refsL hv this
theorem srcOs_inj {all : List Nat} {o : Nat} : ∀ {l : List PV}, cntN o (refsL l) ≤ 1 → ∀ j k : Nat, (srcOs m ob all l)[j]? = some (some o) → (srcOs m ob all l)[k]? = some (some o) → j = k
  | [], _, j, k, hj, _ => by simp [srcOs] at hj
  | v :: r, hc, j, k, hj, hk => by
    simp only [refsL, cntN_app] at hc
    simp only [srcOs] at hj hk
    by_cases hin : some o ∈ srcO m ob all v
    · obtain ⟨_, hr, hs, _⟩ := srcO_mem hin
      rw [hr] at hc
      have h0 : cntN o (refsL r) = 0 := by simp [cntN] at hc; omega
      have hno : some o ∉ srcOs m ob all r := fun h => by have := cntN_pos (srcOs_refs h); omega
      rw [hs] at hj hk
      have h1 : ∀ j : Nat, ([some o] ++ srcOs m ob all r)[j]? = some (some o) → j = 0 := by
        intro j hj
        rcases j with _ | j
        · rfl
        · simp at hj; exact absurd (List.mem_of_getElem? hj) hno
      rw [h1 j hj, h1 k hk]
    · have h1 : ∀ j : Nat, (srcO m ob all v ++ srcOs m ob all r)[j]? = some (some o) → (srcO m ob all v).length ≤ j ∧ (srcOs m ob all r)[j - (srcO m ob all v).length]? = some (some o) := by
        intro j hj
        by_cases hl : j < (srcO m ob all v).length
        · rw [List.getElem?_append_left hl] at hj
          exact absurd (List.mem_of_getElem? hj) hin
        · rw [List.getElem?_append_right (by omega)] at hj
          exact ⟨by omega, hj⟩
      obtain ⟨a1, a2⟩ := h1 j hj
      obtain ⟨b1, b2⟩ := h1 k hk
      have := srcOs_inj (l := r) (by omega) _ _ a2 b2
      omega
def srcH (γ : Gh) (m : Nat) (L : List (Option Nat)) (k : Nat) : Option HI :=
  if k < m then γ.mu k else match L[k - m]? with
  | some none => some { ver := 0, blk := none, w := 0, tot := 0 }
  | some (some o) => (γ.mu o).map fun i => { i with ver := 0 }
  | none => none
theorem hand_ok (S : St C γ w act.tmps sl ob) (F : FinG γ γ' m hd) {all : List Nat} {o ver lo n : Nat} (hh : handX all o ver lo n (getO ob o) = true) :
    ∃ i x y, γ.mu o = some i ∧ getO ob o = some y ∧ y.fro = false ∧ rowX n (getO ob o) = [x] ∧ x.fro = false ∧ ORel C.fid γ' w.heap x { i with ver := 0 } ∧ ver = i.ver ∧ lo = 0 := by
  cases hy : getO ob o with
  | none => simp [hy, handX] at hh
  | some y =>
    rw [hy] at hh
    simp only [handX, Bool.and_eq_true, beq_iff_eq, Bool.not_eq_true', decide_eq_true_eq] at hh
    obtain ⟨⟨⟨⟨⟨hp, hf⟩, hv⟩, hlo⟩, hn⟩, hc⟩ := hh
    obtain ⟨i, hi, h1, h2, h3, h4⟩ := S.obj o y hy
    refine ⟨i, row (y.els.take n) y.w y.g, y, hi, rfl, hf, rfl, rfl, ⟨rfl, fun c h => by simp [row] at h, by simp [row]; omega, ?_⟩, by omega, hlo⟩
    cases hbk : i.blk with
    | none => simpa only [hbk] using h4
    | some b =>
      simp only [hbk] at h4 ⊢
      obtain ⟨g1, cs, g2, g3, g4⟩ := h4
      refine ⟨g1, cs, .of (by unfold mpo; split <;> rfl) (g2.cells (.inr hp)).2, g3, .inl ⟨rfl, ?_⟩⟩
      rcases g4 with ⟨_, g5⟩ | ⟨g4, _⟩
      · have := PEls_sub g5 0 n
        simp only [List.drop_zero, Nat.zero_mul, Nat.add_zero] at this
        exact PEls_mono (fun b hb => ⟨F.q _ b hb, rfl⟩) _ _ _ _ this
      · rw [hp] at g4; cases g4
theorem srcO_nil {all : List Nat} {nx wdt : Nat} {v : PV} {q : PV × List Obj'} (H : resO m ob all nx wdt v = some q) (hs : srcO m ob all v = []) : q.2 = [] ∧ ((∃ o ver lo n, v = .sl o ver lo n ∧ o < m ∧ q.1 = v) ∨ sea m ob v = some q.1) := by
  unfold srcO at hs
  split at hs
  · cases hs
  · rename_i o ver lo n
    split at hs
    · rename_i hm
      simp only [resO] at H
      rw [if_pos hm] at H; injection H with H; subst H
      exact ⟨rfl, .inl ⟨o, ver, lo, n, rfl, hm, rfl⟩⟩
    · rename_i hm
      split at hs
      · cases hs
      · rename_i hh
        simp only [resO] at H
        rw [if_neg hm, if_neg hh] at H
        cases hx : sea m ob (.sl o ver lo n) with
        | none => simp [hx] at H
        | some y => simp [hx] at H; subst H; exact ⟨rfl, .inr rfl⟩
  · rename_i h1 h2
    unfold resO at H
    split at H
    · exact absurd rfl (h1 _)
    · exact absurd rfl (h2 _ _ _ _)
    · cases hx : sea m ob v with
      | none => simp [hx] at H
      | some y => simp [hx] at H; subst H; exact ⟨rfl, .inr rfl⟩
theorem resOs_ok (S : St C γ w act.tmps sl ob) {all rest : List Nat} (F : FinG γ γ' m hd) {L : List (Option Nat)} (hmu : ∀ k, γ'.mu k = srcH γ m L k) :
    ∀ (vs : List PV) (pre : List PV) (rw : List Nat) (ws : List PV) (os : List Obj') (args : Array Value) (off : Nat), resOs m ob all (m + (srcOs m ob all pre).length) rw vs = some (ws, os) → all = refsL (pre ++ vs) ++ rest → L = srcOs m ob all (pre ++ vs) → (∀ o, o ∈ hd ↔ some o ∈ L) → RL C.fid γ w.heap args off vs →
      ws.length = vs.length ∧ os.length = (srcOs m ob all vs).length ∧ RL C.fid γ' w.heap args off ws ∧
      ∀ k x, os[k]? = some x → x.fro = false ∧ ∃ i, γ'.mu (m + (srcOs m ob all pre).length + k) = some i ∧ ORel C.fid γ' w.heap x i
  | [], pre, rw, ws, os, args, off, H, hall, hL, hh, hR => by
    simp only [resOs, Option.some.injEq, Prod.mk.injEq] at H
    obtain ⟨rfl, rfl⟩ := H
    exact ⟨rfl, rfl, by simp only [RL], fun k x h => by simp at h⟩
  | v :: r, pre, rw, ws, os, args, off, H, hall, hL, hh, hR => by
    simp only [resOs] at H
    split at H
    · rename_i w1 o1 h1
      split at H
      · rename_i ws2 os2 h2
        simp only [Option.some.injEq, Prod.mk.injEq] at H
        obtain ⟨rfl, rfl⟩ := H
        simp only [RL] at hR
        obtain ⟨⟨x, hx, hv⟩, hR⟩ := hR
        have app : ∀ a b : List PV, srcOs m ob all (a ++ b) = srcOs m ob all a ++ srcOs m ob all b := by
          intro a b
          induction a with
          | nil => rfl
          | cons y a ih => simp only [List.cons_append, srcOs, ih, List.append_assoc]
        have key : o1.length = (srcO m ob all v).length ∧ RAt C.fid γ' w.heap #[x] 0 w1 ∧ ∀ k y, o1[k]? = some y → y.fro = false ∧ ∃ i, γ'.mu (m + (srcOs m ob all pre).length + k) = some i ∧ ORel C.fid γ' w.heap y i := by
          have hat : ∀ k : Nat, k < (srcO m ob all v).length → L[(srcOs m ob all pre).length + k]? = (srcO m ob all v)[k]? := by
            intro k hk
            rw [hL, app, List.getElem?_append_right (by omega)]
            simp only [srcOs]
            rw [List.getElem?_append_left (by omega)]
            congr 1; omega
          have hmu' : ∀ k : Nat, k < (srcO m ob all v).length → γ'.mu (m + (srcOs m ob all pre).length + k) = match (srcO m ob all v)[k]? with
              | some none => some { ver := 0, blk := none, w := 0, tot := 0 }
              | some (some o) => (γ.mu o).map fun i => { i with ver := 0 }
              | none => none := by
            intro k hk
            rw [hmu, srcH, if_neg (by omega), show m + (srcOs m ob all pre).length + k - m = (srcOs m ob all pre).length + k by omega, hat k hk]
          cases hs : srcO m ob all v with
          | nil =>
            obtain ⟨g1, g2⟩ := srcO_nil h1 hs
            simp only at g1 g2
            subst g1
            refine ⟨rfl, ?_, fun k y h => by simp at h⟩
            rcases g2 with ⟨o, ver, lo, n, rfl, hm, rfl⟩ | g2
            · simp only [RAt] at hv ⊢
              obtain ⟨i, hi, q⟩ := hv
              exact ⟨i, F.mu o i hm hi, q⟩
            · refine (sea_ok S F v g2 (fun o ho hin => ?_) hv).1
              have hm := (hh o).1 hin
              rw [hL, app] at hm
              simp only [srcOs, hs, List.nil_append, List.mem_append] at hm
              have h1 : cntN o all = 1 := by
                rcases hm with hm | hm
                · obtain ⟨u, _, hu⟩ := srcOs_mem hm; exact (srcO_mem hu).2.2.2
                · obtain ⟨u, _, hu⟩ := srcOs_mem hm; exact (srcO_mem hu).2.2.2
              rw [hall, cntN_app, refsL_app, cntN_app] at h1
              simp only [refsL, cntN_app] at h1
              have p1 := cntN_pos ho
              rcases hm with hm | hm
              · have := cntN_pos (srcOs_refs hm); omega
              · have := cntN_pos (srcOs_refs hm); omega
          | cons s0 s1 =>
            have hs' := hs
            unfold srcO at hs
            split at hs
            · injection hs with e1 e2; subst e1; subst e2
              rename_i nil
              simp only [resO, Option.some.injEq, Prod.mk.injEq] at h1
              obtain ⟨rfl, rfl⟩ := h1
              have hm0 := hmu' 0 (by rw [hs']; simp)
              simp only [hs', List.getElem?_cons_zero] at hm0
              refine ⟨rfl, ?_, ?_⟩
              · simp only [RAt] at hv ⊢
                obtain ⟨a, e, _⟩ := hv
                exact ⟨_, by simpa using hm0, Nat.le_refl _, a, 0, e, fun _ => ⟨rfl, Nat.le_refl _, fun h => absurd h (Nat.lt_irrefl _)⟩⟩
              · intro k y hk
                rcases k with _ | k
                · simp at hk; subst hk
                  exact ⟨rfl, _, hm0, rfl, (fun c h => by simp [row] at h), by simp [row], rfl⟩
                · simp at hk
            · rename_i o ver lo n
              split at hs
              · cases hs
              · rename_i hm
                split at hs
                · rename_i hhd
                  injection hs with e1 e2; subst e1; subst e2
                  simp only [resO] at h1
                  rw [if_neg hm, if_pos hhd] at h1
                  simp only [Option.some.injEq, Prod.mk.injEq] at h1
                  obtain ⟨rfl, rfl⟩ := h1
                  obtain ⟨i, y, yy, hi, _, _, hy, hyf, hor, hvr, hlo⟩ := hand_ok S F hhd
                  have hm0 := hmu' 0 (by rw [hs']; simp)
                  simp only [hs', List.getElem?_cons_zero, hi, Option.map_some] at hm0
                  refine ⟨by rw [hy]; rfl, ?_, ?_⟩
                  · simp only [RAt] at hv ⊢
                    obtain ⟨i', hi', h5, a, c, e, h6⟩ := hv
                    rw [hi] at hi'; injection hi' with hi'; subst hi'
                    refine ⟨_, by simpa using hm0, Nat.le_refl _, a, c, e, fun _ => ?_⟩
                    obtain ⟨k1, k2, k3⟩ := h6 hvr
                    subst hlo
                    exact ⟨k1, k2, k3⟩
                  · intro k z hk
                    rw [hy] at hk
                    rcases k with _ | k
                    · simp at hk; subst hk
                      exact ⟨hyf, _, hm0, hor⟩
                    · simp at hk
                · cases hs
            · cases hs
        obtain ⟨k1, k2, k3⟩ := key
        have hlen : (srcOs m ob all (pre ++ [v])).length = (srcOs m ob all pre).length + o1.length := by rw [app]; simp [srcOs, k1]
        obtain ⟨g1, g2, g3, g4⟩ := resOs_ok S (rest := rest) F hmu r (pre ++ [v]) rw.tail ws2 os2 args (off + 1) (by rw [hlen, ← Nat.add_assoc]; exact h2) (by rw [hall]; simp) (by rw [hL]; simp) hh hR
        refine ⟨by simp [g1], by simp [srcOs, g2, k1], by simp only [RL]; exact ⟨⟨x, hx, k2⟩, g3⟩, fun k y hk => ?_⟩
        by_cases hlt : k < o1.length
        · rw [List.getElem?_append_left hlt] at hk; exact k3 k y hk
        · rw [List.getElem?_append_right (by omega)] at hk
          have := g4 _ y hk
          rw [hlen] at this
          rwa [show m + ((srcOs m ob all pre).length + o1.length) + (k - o1.length) = m + (srcOs m ob all pre).length + k by omega] at this
      · cases H
    · cases H
end
end
section
open Go
section
variable {P : Program} {C : Ctx} {γ : Gh} {w : World} {tmps : Array Value} {sl : SL} {ob : OB}
theorem take_nth {ids : List Nat} {m k : Nat} (h : ids.take m = List.range m) (hk : k < m) : k < ids.length ∧ nth ids k = k := by
  have hl : (ids.take m).length = m := by rw [h]; simp
  have hm : m ≤ ids.length := by rw [List.length_take] at hl; omega
  have hk' : k < ids.length := by omega
  have h1 := nth_get ids k hk'
  have h2 : (ids.take m)[k]? = some (nth ids k) := by rw [List.getElem?_take, if_pos hk]; exact h1
  rw [h, List.getElem?_range hk] at h2
  injection h2 with h2
  exact ⟨hk', h2.symm⟩
theorem one_ok {fid : Nat → Nat} {γ' : Gh} {h : Array Obj} {xs : List Value} {ws : List PV} (hR : RL fid γ' h xs.toArray 0 ws) (hl : xs.length = ws.length) : RV fid γ' h (if h : xs.length = 1 then xs[0]'(by omega) else .tuple xs.toArray) (one ws) := by
  rcases ws with _ | ⟨v, _ | ⟨v2, ws⟩⟩
  · have h0 : xs.length = 0 := by simpa using hl
    simp only [one]
    rw [dif_neg (by omega)]
    exact RV_tup.2 ⟨_, rfl, by simp [h0], hR⟩
  · have h0 : xs.length = 1 := by simpa using hl
    simp only [one]
    rw [dif_pos h0]
    simp only [RL] at hR
    obtain ⟨⟨x, hx, hv⟩, _⟩ := hR
    have : xs[0]'(by omega) = x := by
      have h := List.getElem?_eq_getElem (l := xs) (i := 0) (by omega)
      have h2 : xs[0]? = some x := by simpa using hx
      rw [h] at h2; injection h2
    rw [this]; exact hv
  · simp only [one]
    rw [dif_neg (by simp at hl; omega)]
    exact RV_tup.2 ⟨_, rfl, by simp at hl ⊢; omega, hR⟩
theorem finG_ok (S : St C γ w tmps sl ob) {m : Nat} {vs : List PV} {xs : List Value} (hR : RL C.fid γ w.heap xs.toArray 0 vs) (hl : xs.length = vs.length) {r : PV} {out : List Obj'} (hm : m ≤ 64) (hkp : ∀ k, k < m → C.kp k) (hm0 : ∀ k i, C.g0.mu k = some i → k < m)
    (H : finG ob m vs = some (r, out)) : ∃ γ', Ret C γ' w (if h : xs.length = 1 then xs[0]'(by omega) else .tuple xs.toArray) r m out := by
  unfold finG at H
  split at H
  case h_2 => cases H
  rename_i ids hre
  split at H
  case h_2 => cases H
  rename_i os hos
  split at H
  case isFalse => cases H
  rename_i hc
  obtain ⟨htake, h64, _⟩ := hc
  simp only [Option.some.injEq, Prod.mk.injEq] at H
  obtain ⟨rfl, rfl⟩ := H
  obtain ⟨hnd, _, hin, hcl⟩ := reach_ok ob 20 _ _ _ hre (by simp) (fun o h => by cases h)
  obtain ⟨hol, hog⟩ := getOs_ok ob ids os hos
  have mv : ∀ {S'}, (∀ o ∈ S', o ∈ ids) → Mv γ (γ.ren ids) w.heap w.heap S' (idx ids) := by
    intro S' hS
    refine ⟨fun o ho i hi => ⟨i, ?_, .inl rfl⟩, fun g b h => ⟨h, rfl⟩⟩
    obtain ⟨h1, h2⟩ := nth_idx ids o (hS o ho)
    simp only [Gh.ren, h2, if_true, h1]; exact hi
  have hmu : ∀ k i, (γ.ren ids).mu k = some i → k < ids.length ∧ γ.mu (nth ids k) = some i := by
    intro k i h
    simp only [Gh.ren] at h
    split at h
    · rename_i hk; exact ⟨hk, h⟩
    · cases h
  have hobj : ∀ (k : Nat) x, (os.map (renO (idx ids)))[k]? = some x → ∃ X, k < ids.length ∧ getO ob (nth ids k) = some X ∧ x = renO (idx ids) X := by
    intro k x h
    rw [List.getElem?_map] at h
    obtain ⟨X, hX, rfl⟩ := Option.map_eq_some_iff.1 h
    have hk : k < ids.length := by rw [← hol]; exact (List.getElem?_eq_some_iff.1 hX).1
    obtain ⟨Y, hY, hg⟩ := hog k _ (nth_get ids k hk)
    rw [hX] at hY; injection hY with hY; subst hY
    exact ⟨X, hk, hg, rfl⟩
  refine ⟨γ.ren ids, ?_⟩
  constructor
  · exact one_ok (RL_map vs xs.toArray 0 (mv fun o ho => hin o (List.mem_append_right _ ho)) hR) (by rw [length_renL]; exact hl)
  · rw [List.length_map, hol]
    have : (ids.take m).length = m := by rw [htake]; simp
    rw [List.length_take] at this; omega
  · intro k x hx
    obtain ⟨X, hk, hX, rfl⟩ := hobj k x hx
    obtain ⟨i, hi, hlend⟩ := S.obj _ X hX
    refine ⟨i, by simp only [Gh.ren, hk, if_true]; exact hi, ?_⟩
    obtain ⟨Y, hY, hcl'⟩ := hcl _ (List.mem_of_getElem? (nth_get ids k hk))
    rw [hX] at hY; injection hY with hY; subst hY
    obtain ⟨h1, h2, h3, h4⟩ := hlend
    unfold renO
    split
    · rename_i hp
      refine ⟨h1, h2, h3, ?_⟩
      cases hbk : i.blk with
      | none => simpa only [hbk] using h4
      | some b =>
        simp only [hbk] at h4 ⊢
        obtain ⟨g1, cs, g2, g3, g4⟩ := h4
        refine ⟨g1, cs, g2, g3, ?_⟩
        rcases g4 with ⟨g4, g5⟩ | ⟨g4, _⟩
        · exact .inl ⟨g4, g5⟩
        · rw [hp] at g4; cases g4
    · rename_i hp
      refine ⟨h1, h2, by rw [length_renEls]; exact h3, ?_⟩
      cases hbk : i.blk with
      | none => simpa only [hbk] using h4
      | some b =>
        simp only [hbk] at h4 ⊢
        obtain ⟨g1, cs, g2, g3, g4⟩ := h4
        refine ⟨g1, cs, g2.els (y := { X with els := renEls (idx ids) X.els }) rfl rfl (fun e => by rw [e]; rfl), g3, ?_⟩
        rcases g4 with ⟨g4, _⟩ | ⟨g4, g5⟩
        · exact absurd g4 hp
        · refine .inr ⟨g4, REls_map _ _ _ _ (mv ?_) g5⟩
          intro o ho
          refine hcl' o ?_
          unfold refsO; rw [if_neg hp]; exact ho
  · intro k i hi
    rw [List.length_map, hol]; exact (hmu k i hi).1
  · intro k k' i i' b h1 h2 h3 h4
    obtain ⟨hk, g1⟩ := hmu k i h1
    obtain ⟨hk', g2⟩ := hmu k' i' h2
    have := S.inj _ _ i i' b g1 g2 h3 h4
    have := congrArg (idx ids) this
    rwa [idx_nth ids k hnd hk, idx_nth ids k' hnd hk'] at this
  · intro k x i b hx hf hi hb him
    obtain ⟨X, hk, hX, rfl⟩ := hobj k x hx
    obtain ⟨_, g1⟩ := hmu k i hi
    have hf' : X.fro = false := by unfold renO at hf; split at hf <;> exact hf
    exact S.unf _ X i b hX hf' g1 hb him
  · exact fun k i b hi hb => S.own _ i b (hmu k i hi).2 hb
  · exact S.lt
  · exact S.chg
  · exact S.gn
  · intro k i hk hi
    obtain ⟨i', h1, h2⟩ := S.kept k i (hkp k hk) hi
    obtain ⟨h3, h4⟩ := take_nth htake hk
    exact ⟨i', by simp only [Gh.ren, h3, if_true, h4]; exact h1, h2⟩
  · exact S.imk
  · exact S.imn
  · intro k i b hi hb
    obtain ⟨hk, g1⟩ := hmu k i hi
    rcases S.place _ i b g1 hb with ⟨_, j, h1, h2⟩ | h
    · have h3 := hm0 _ j h1
      obtain ⟨h4, h5⟩ := take_nth htake h3
      have : k = nth ids k := by
        have e := idx_nth ids k hnd hk
        have e2 := idx_nth ids (nth ids k) hnd h4
        rw [h5] at e2
        exact e.symm.trans e2
      exact .inl ⟨this ▸ h3, j, by rw [this]; exact h1, h2⟩
    · exact .inr h
def mark (D : Nat) : Deferred := { target := .collected D, args := #[] }
def TP (C0 : Ctx) (r0 : R) : KeepT := fun C' ds r _ => r = r0 ∧ Ext C0 C' ∧ (∀ k, C'.kp k ↔ k < 64) ∧ ∃ Ds : List Nat, Ds.Nodup ∧ ds = Ds.map mark ∧
  ∀ D ∈ Ds, C0.w0.heap.size ≤ D ∧ D < C'.w0.heap.size ∧ ¬ C'.A D ∧ ¬ C'.g0.im D ∧ C'.w0.heap[D]? = some (.deferred (some []))
theorem TP_slot (yp : Bool) (C0 : Ctx) (r0 : R) : SlotOK yp (TP C0 r0) := fun _ _ _ _ _ _ h => h
theorem TP_head (C0 : Ctx) (r0 : R) : HeadOK (TP C0 r0) := fun _ _ _ _ h k hk => (h.2.2.1 k).1 hk
theorem TP_rg (C0 : Ctx) (r0 : R) : RgT (TP C0 r0) := by
  rintro C' ds r sl sl' γ w w' tmps ob Q D ⟨h1, h2, h3, Ds, h4, h5, h6⟩ S hc hQ hq hD hn hi hw hd
  refine ⟨h1, h2.rebase S h2.kp hc (fun b hb hb' => ?_) hq, h3, D :: Ds, List.nodup_cons.2 ⟨fun h => ?_, h4⟩, by rw [h5]; rfl, fun D' hD' => ?_⟩
  · rcases h2.A b (hQ b (Nat.lt_of_lt_of_le hb h2.chg.size) hb') with h | h
    · exact h
    · omega
  · have := (h6 D h).2.1; omega
  · rcases List.mem_cons.1 hD' with rfl | hD'
    · exact ⟨Nat.le_trans h2.chg.size hw, hD, hn, hi, hd⟩
    · obtain ⟨g1, g2, g3, g4, g5⟩ := h6 D' hD'
      have hlt : D' < w.heap.size := Nat.lt_of_lt_of_le g2 S.chg.size
      refine ⟨g1, Nat.lt_of_lt_of_le hlt hc.size, ?_, ?_, ?_⟩
      · rintro ⟨o, i, k1, k2⟩
        rcases S.own o i D' k1 k2 with h | h
        · exact g3 h
        · omega
      · intro h
        rcases S.imn D' h with h | h | h
        · exact g4 h
        · exact g3 h
        · omega
      · refine (hc.block D' hlt (fun h => g3 (hQ D' g2 h))).trans ((S.chg.block D' g2 (fun h => ?_)).trans g5)
        rcases h with h | h
        · exact g3 h
        · omega
theorem leave_ok {C0 : Ctx} {γ : Gh} {fn : Func} {tm tmps : Array Value} {sl : SL} {ob : OB} {R : Ending → World → Prop} {n : Nat} (hQ : ∀ w, St C0 γ w tmps sl ob → ∃ v, (results fn tm).run P w = .ok v w ∧ R (.returned v) w) :
    ∀ (Ds : List Nat) (w : World), Ds.Nodup → (∀ D ∈ Ds, C0.w0.heap.size ≤ D ∧ ¬ γ.im D ∧ ¬ ownB γ D ∧ w.heap[D]? = some (.deferred (some []))) → St C0 γ w tmps sl ob → LeavesInM Fence.wide n P fn tm R (Ds.map mark) .returning w
  | [], w, _, _, S => hQ w S
  | D :: Ds, w, hn, h, S => by
    obtain ⟨h1, h2, h3, h4⟩ := h D (List.mem_cons_self ..)
    refine ⟨by simp, .inl ⟨D, _, rfl, run_takeDeferred h4, leave_ok hQ Ds _ (List.nodup_cons.1 hn).2 (fun D' hD' => ?_) (S.same (Chg.put w D _) (fun b hb e => by omega) (fun b _ e => by subst e; exact ⟨h2, h3⟩))⟩⟩
    obtain ⟨k1, k2, k3, k4⟩ := h D' (List.mem_cons_of_mem _ hD')
    exact ⟨k1, k2, k3, (World.putObj_heap_other (fun e => by subst e; exact (List.nodup_cons.1 hn).1 hD')).trans k4⟩
end
end
end Go.Proofs.Ytnkapponcbgbhaa
