import Derived.Test.YtnkapponcbgbhaaRel
import Derived.Laws.Cells
set_option linter.all false
namespace Go.Proofs.Ytnkapponcbgbhaa
section
open Go
theorem getO_app (u ob : OB) (o : Nat) : getO (u ++ ob) o = (match getO u o with | some x => some x | none => getO ob o) := by
  induction u with
  | nil => simp [getO]
  | cons a r ih =>
    obtain ⟨k, v⟩ := a
    simp only [List.cons_append, getO]
    split
    · rfl
    · exact ih
theorem getO_app_some {u ob : OB} {o : Nat} {x : Obj'} (h : getO u o = some x) : getO (u ++ ob) o = some x := by rw [getO_app, h]
theorem getO_app_none {u ob : OB} {o : Nat} (h : getO u o = none) : getO (u ++ ob) o = getO ob o := by rw [getO_app, h]
section
variable {h : Array Obj} {q : Nat → Prop} {cs cs' : Array Value}
theorem blobR_at {off off' : Nat} {xs : List PV} (H : ∀ i v, i < xs.length → cs[off + i]? = some v → cs'[off' + i]? = some v) (B : blobR cs off xs) : blobR cs' off' xs := by
  intro i x hx
  obtain ⟨v, hv, hs⟩ := B i x hx
  exact ⟨v, H i v (by have := List.getElem?_eq_some_iff.1 hx; exact this.1) hv, hs⟩
theorem PAt_at {v : PV} {off off' : Nat} (H : ∀ i x, i < wd v → cs[off + i]? = some x → cs'[off' + i]? = some x) (R : PAt h q cs off v) : PAt h q cs' off' v := by
  have H0 : wd v = 1 → ∀ x, cs[off]? = some x → cs'[off']? = some x := fun hw x hx => H 0 x (by omega) hx
  cases v <;> simp only [PAt] at R ⊢
  case b => exact H0 rfl _ R
  case i => exact H0 rfl _ R
  case s => obtain ⟨s, h1, h2⟩ := R; exact ⟨s, H0 rfl _ h1, h2⟩
  case blob n xs => exact ⟨R.1, blobR_at (fun i v hi => H i v (by simp only [wd]; omega)) R.2⟩
  case l g xs => obtain ⟨a, c, h1, h2⟩ := R; exact ⟨a, c, H0 rfl _ h1, h2⟩
theorem PCells_at : ∀ {l : List PV} {off off' : Nat}, (∀ i x, i < wds l → cs[off + i]? = some x → cs'[off' + i]? = some x) → PCells h q cs off l → PCells h q cs' off' l
  | [], _, _, _, _ => by simp only [PCells]
  | v :: r, off, off', H, R => by
    simp only [PCells] at R ⊢
    simp only [wds] at H
    exact ⟨PAt_at (fun i x hi => H i x (by omega)) R.1, PCells_at (fun i x hi hx => by
      have := H (wd v + i) x (by omega) (by rw [← Nat.add_assoc]; exact hx)
      rwa [← Nat.add_assoc] at this) R.2⟩
variable {fid : Nat → Nat} {γ : Gh}
theorem RAt_at {v : PV} {off off' : Nat} (H : ∀ i x, i < wd v → cs[off + i]? = some x → cs'[off' + i]? = some x) (R : RAt fid γ h cs off v) : RAt fid γ h cs' off' v := by
  have H0 : wd v = 1 → ∀ x, cs[off]? = some x → cs'[off']? = some x := fun hw x hx => H 0 x (by omega) hx
  cases v <;> simp only [RAt] at R ⊢
  case b => exact H0 rfl _ R
  case i => exact H0 rfl _ R
  case s => obtain ⟨s, h1, h2⟩ := R; exact ⟨s, H0 rfl _ h1, h2⟩
  case blob n xs => exact ⟨R.1, blobR_at (fun i v hi => H i v (by simp only [wd]; omega)) R.2⟩
  case l g xs => exact PAt_at H R
  case ln g xs => obtain ⟨R, a, n, c, e⟩ := R; exact ⟨PAt_at (v := .l g xs) H R, a, n, c, H0 rfl _ e⟩
  case e nil => obtain ⟨a, h1, h2⟩ := R; exact ⟨a, H0 rfl _ h1, h2⟩
  case sl o ver lo n => obtain ⟨i, h1, h2, a, c, e, h3⟩ := R; exact ⟨i, h1, h2, a, c, H0 rfl _ e, h3⟩
  case bs o o' lo n => obtain ⟨i, h1, a, c, e, h2⟩ := R; exact ⟨i, h1, a, c, H0 rfl _ e, h2⟩
  case p o ver j o' bi => obtain ⟨i, h1, h2, a, e, h3⟩ := R; exact ⟨i, h1, h2, a, H0 rfl _ e, h3⟩
  case q g xs bi => obtain ⟨b, o, cs1, e, h1⟩ := R; exact ⟨b, o, cs1, H0 rfl _ e, h1⟩
  case np => exact H0 rfl _ R
  case agg xs => obtain ⟨arr, e, h1⟩ := R; exact ⟨arr, H0 rfl _ e, h1⟩
  case tup xs => obtain ⟨arr, e, h1⟩ := R; exact ⟨arr, H0 rfl _ e, h1⟩
  case fn k a b => obtain ⟨f0, a1, a2, e, h1⟩ := R; exact ⟨f0, a1, a2, H0 rfl _ e, h1⟩
  case m o => obtain ⟨i, h1, a, e, h3⟩ := R; exact ⟨i, h1, a, H0 rfl _ e, h3⟩
  case ifc t v => obtain ⟨x, e, h1⟩ := R; exact ⟨x, H0 rfl _ e, h1⟩
  case ni => exact H0 rfl _ R
  case nm => exact H0 rfl _ R
  case nf => exact H0 rfl _ R
  case y o n m => obtain ⟨i, h1, h2, h3⟩ := R; exact ⟨i, h1, h2, h3.map (H0 rfl) (fun e => ⟨e, rfl⟩)⟩
  case ub => obtain ⟨x, e⟩ := R; exact ⟨x, H0 rfl _ e⟩
theorem RCells_at : ∀ {l : List PV} {off off' : Nat}, (∀ i x, i < wds l → cs[off + i]? = some x → cs'[off' + i]? = some x) → RCells fid γ h cs off l → RCells fid γ h cs' off' l
  | [], _, _, _, _ => by simp only [RCells]
  | v :: r, off, off', H, R => by
    simp only [RCells] at R ⊢
    simp only [wds] at H
    exact ⟨⟨R.1.1, RAt_at (fun i x hi => H i x (by omega)) R.1.2⟩, RCells_at (fun i x hi hx => by
      have := H (wd v + i) x (by omega) (by rw [← Nat.add_assoc]; exact hx)
      rwa [← Nat.add_assoc] at this) R.2⟩
theorem RV.at {x : Value} {v : PV} (R : RV fid γ h x v) {off : Nat} (e : cs[off]? = some x) : RAt fid γ h cs off v := by
  refine RAt_at ?_ R
  intro i y _ hy
  have : i = 0 := by
    rcases i with _ | i
    · rfl
    · simp at hy
  subst this
  simp at hy; subst hy; exact e
theorem RV.of {x : Value} {v : PV} {off : Nat} (e : cs[off]? = some x) (hw : wd v ≤ 1) (R : RAt fid γ h cs off v) : RV fid γ h x v := by
  refine RAt_at ?_ R
  intro i y hi hy
  have : i = 0 := by omega
  subst this
  simp at hy; rw [e] at hy; injection hy with hy; subst hy; simp
end
section
variable {C : Ctx} {γ γ' : Gh} {w w' : World} {tmps : Array Value} {sl : SL} {ob u : OB}
theorem getS_cons (k : Nat) (v : PV) (sl : SL) (t : Nat) : getS ((k, v) :: sl) t = if k = t then v else getS sl t := rfl
theorem St.put (S : St C γ w tmps sl ob) (d : Nat) (hd : d < tmps.size) {v : PV} {x : Value} (H : RV C.fid γ w.heap x v) : St C γ w (tmps.setIfInBounds d x) ((d, v) :: sl) ob := by
  refine { S with slot := ?_ }
  intro t
  rw [getS_cons]
  by_cases e : d = t
  · subst e
    rw [if_pos rfl]
    have : (tmps.setIfInBounds d x).getD d undef = x := by simp [Array.getD, hd]
    rw [this]; exact H
  · rw [if_neg e]
    have : (tmps.setIfInBounds d x).getD t undef = tmps.getD t undef := by
      simp only [Array.getD_eq_getD_getElem?, Array.getElem?_setIfInBounds_ne e]
    rw [this]; exact S.slot t
theorem St.change (S : St C γ w tmps sl ob)
    (hmu : ∀ o, getO u o = none → γ'.mu o = γ.mu o)
    (hver : ∀ o i, γ.mu o = some i → ∃ i', γ'.mu o = some i' ∧ (i' = i ∨ i.ver < i'.ver))
    (him : ∀ b, γ.im b → γ'.im b ∧ w'.heap[b]? = w.heap[b]?) (hgn : γ'.gn = γ.gn)
    (hob : ∀ o i b, getO u o = none → γ.mu o = some i → i.blk = some b → w'.heap[b]? = w.heap[b]? ∧ (γ'.im b → γ.im b))
    (hu : ∀ o x, getO u o = some x → ∃ i, γ'.mu o = some i ∧ ORel C.fid γ' w'.heap x i ∧ ∀ b, i.blk = some b →
      (C.A b ∨ C.w0.heap.size ≤ b) ∧ (x.fro = false → ¬ γ'.im b) ∧ (∀ o' i', γ'.mu o' = some i' → i'.blk = some b → o' = o) ∧ ((o < 64 ∧ ∃ j, C.g0.mu o = some j ∧ j.blk = some b) ∨ C.N b))
    (hlt : ∀ b, γ'.im b → b < w'.heap.size) (himn : ∀ b, γ'.im b → γ.im b ∨ (C.A b ∨ C.w0.heap.size ≤ b))
    (hchg : Chg (fun b => C.A b ∨ C.w0.heap.size ≤ b) w w') :
    Mv γ γ' w.heap w'.heap [] (fun o => o) ∧ (∀ S, Mv γ γ' w.heap w'.heap S (fun o => o)) ∧ St C γ' w' tmps sl (u ++ ob) := by
  have hq : ∀ g b, γ.q g b → γ'.q g b ∧ w'.heap[b]? = w.heap[b]? := fun g b hb => ⟨⟨(him b hb.1).1, fun hg => by rw [hgn]; exact hb.2 hg⟩, (him b hb.1).2⟩
  have M : ∀ S, Mv γ γ' w.heap w'.heap S (fun o => o) := fun S => ⟨fun o _ i hi => hver o i hi, hq⟩
  refine ⟨M _, M, ?_⟩
  constructor
  · exact fun t => RAt_mono (M _) (S.slot t)
  · intro o x hx
    rw [getO_app] at hx
    split at hx
    · rename_i y hy
      injection hx with hx; subst hx
      obtain ⟨i, h1, h2, _⟩ := hu o y hy
      exact ⟨i, h1, h2⟩
    · rename_i hn
      obtain ⟨i, h1, h2⟩ := S.obj o x hx
      exact ⟨i, by rw [hmu o hn]; exact h1, ORel_mono (M _) (fun b hb => (hob o i b hn h1 hb).1) h2⟩
  · intro o i hi
    cases hn : getO u o with
    | some x => exact ⟨x, getO_app_some hn⟩
    | none =>
      rw [hmu o hn] at hi
      obtain ⟨x, hx⟩ := S.dom o i hi
      exact ⟨x, by rw [getO_app_none hn]; exact hx⟩
  · intro o o' i i' b h1 h2 h3 h4
    cases hn : getO u o with
    | some x =>
      obtain ⟨j, e, _, H⟩ := hu o x hn
      rw [h1] at e; injection e with e; subst e
      exact ((H b h3).2.2.1 o' i' h2 h4).symm
    | none =>
      cases hn' : getO u o' with
      | some x =>
        obtain ⟨j, e, _, H⟩ := hu o' x hn'
        rw [h2] at e; injection e with e; subst e
        exact (H b h4).2.2.1 o i h1 h3
      | none =>
        rw [hmu o hn] at h1; rw [hmu o' hn'] at h2
        exact S.inj o o' i i' b h1 h2 h3 h4
  · intro o x i b hx hf hi hb
    rw [getO_app] at hx
    split at hx
    · rename_i y hy
      injection hx with hx; subst hx
      obtain ⟨j, e, _, H⟩ := hu o y hy
      rw [hi] at e; injection e with e; subst e
      exact (H b hb).2.1 hf
    · rename_i hn
      rw [hmu o hn] at hi
      exact fun hh => S.unf o x i b hx hf hi hb ((hob o i b hn hi hb).2 hh)
  · intro o i b hi hb
    cases hn : getO u o with
    | some x =>
      obtain ⟨j, e, _, H⟩ := hu o x hn
      rw [hi] at e; injection e with e; subst e
      exact (H b hb).1
    | none => rw [hmu o hn] at hi; exact S.own o i b hi hb
  · exact hlt
  · intro g xs hg
    obtain ⟨h1, cs, h2, h3⟩ := S.glob g xs hg
    exact ⟨(hq true g h1).1, cs, h2.keep (hq true g h1).2, PCells_mono (hq true) _ _ _ h3⟩
  · exact S.chg.trans hchg
  · rw [hgn]; exact S.gn
  · exact S.gnew
  · intro k i hk hi
    obtain ⟨i1, h1, h2⟩ := S.kept k i hk hi
    obtain ⟨i2, h3, h4⟩ := hver k i1 h1
    refine ⟨i2, h3, ?_⟩
    rcases h2 with rfl | h2
    · exact h4
    · rcases h4 with rfl | h4
      · exact .inr h2
      · exact .inr (by omega)
  · intro b hb
    obtain ⟨h1, h2⟩ := S.imk b hb
    exact ⟨(him b h1).1, (him b h1).2.trans h2⟩
  · intro b hb
    rcases himn b hb with h | h
    · exact S.imn b h
    · exact .inr h
  · intro o i b hi hb
    cases hn : getO u o with
    | some x =>
      obtain ⟨j, e, _, H⟩ := hu o x hn
      rw [hi] at e; injection e with e; subst e
      exact (H b hb).2.2.2
    | none => rw [hmu o hn] at hi; exact S.place o i b hi hb
  · exact S.fresh
end
end
section
open Go
theorem wds_app : ∀ (a b : List PV), wds (a ++ b) = wds a + wds b
  | [], b => by simp [wds]
  | v :: r, b => by simp only [List.cons_append, wds, wds_app r b]; omega
theorem takeW_dropW : ∀ {ss : List PV} {n : Nat} {a c : List PV}, takeW ss n = some a → dropW ss n = some c → ss = a ++ c ∧ wds a = n
  | ss, 0, a, c, ha, hc => by simp only [takeW, dropW, Option.some.injEq] at ha hc; subst ha; subst hc; simp [wds]
  | [], n + 1, a, c, ha, hc => by simp [takeW] at ha
  | s :: ss, n + 1, a, c, ha, hc => by
    simp only [takeW, dropW] at ha hc
    split at ha
    · rename_i hw
      rw [if_pos hw] at hc
      cases hr : takeW ss (n + 1 - wd s) with
      | none => simp [hr] at ha
      | some r =>
        simp [hr] at ha; subst ha
        obtain ⟨e, hn⟩ := takeW_dropW hr hc
        exact ⟨by rw [List.cons_append, ← e], by simp only [wds, hn]; omega⟩
    · cases ha
theorem takeW_some : ∀ {ss : List PV} {n : Nat} {a : List PV}, takeW ss n = some a → ∃ c, dropW ss n = some c
  | ss, 0, _, _ => ⟨ss, by simp [dropW]⟩
  | [], n + 1, _, h => by simp [takeW] at h
  | s :: ss, n + 1, a, h => by
    simp only [takeW] at h
    split at h
    · rename_i hw
      cases hr : takeW ss (n + 1 - wd s) with
      | none => simp [hr] at h
      | some r => obtain ⟨c, hc⟩ := takeW_some hr; exact ⟨c, by simp only [dropW, if_pos hw, hc]⟩
    · cases h
theorem dropW_some : ∀ {ss : List PV} {n : Nat} {c : List PV}, dropW ss n = some c → ∃ a, takeW ss n = some a
  | ss, 0, _, _ => ⟨[], by simp [takeW]⟩
  | [], n + 1, _, h => by simp [dropW] at h
  | s :: ss, n + 1, c, h => by
    simp only [dropW] at h
    split at h
    · rename_i hw
      obtain ⟨a, ha⟩ := dropW_some h; exact ⟨s :: a, by simp only [takeW, if_pos hw, ha, Option.map_some]⟩
    · cases h
theorem takeW_pre {ss a : List PV} {n : Nat} (h : takeW ss n = some a) : ∃ c, ss = a ++ c ∧ wds a = n := by
  obtain ⟨c, hc⟩ := takeW_some h; obtain ⟨e, hn⟩ := takeW_dropW h hc; exact ⟨c, e, hn⟩
theorem dropW_suf {ss c : List PV} {n : Nat} (h : dropW ss n = some c) : ∃ a, ss = a ++ c ∧ wds a = n := by
  obtain ⟨a, ha⟩ := dropW_some h; obtain ⟨e, hn⟩ := takeW_dropW ha h; exact ⟨a, e, hn⟩
section
variable {h : Array Obj} {q : Nat → Prop} {cs cs' : Array Value} {fid : Nat → Nat} {γ : Gh}
theorem PCells_app : ∀ {a b : List PV} {off : Nat}, PCells h q cs off (a ++ b) ↔ PCells h q cs off a ∧ PCells h q cs (off + wds a) b
  | [], b, off => by simp [PCells, wds]
  | v :: r, b, off => by simp only [List.cons_append, PCells, wds, PCells_app (a := r), and_assoc, Nat.add_assoc]
theorem RCells_app : ∀ {a b : List PV} {off : Nat}, RCells fid γ h cs off (a ++ b) ↔ RCells fid γ h cs off a ∧ RCells fid γ h cs (off + wds a) b
  | [], b, off => by simp [RCells, wds]
  | v :: r, b, off => by simp only [List.cons_append, RCells, wds, RCells_app (a := r), and_assoc, Nat.add_assoc]
theorem wd_rt (g : Bool) (v : PV) : wd (rt g v) = wd v := by cases v <;> rfl
theorem wds_rt (g : Bool) : ∀ l, wds (l.map (rt g)) = wds l
  | [] => rfl
  | v :: r => by simp only [List.map_cons, wds, wd_rt, wds_rt g r]
theorem cellV_rt {g : Bool} {v : PV} {off : Nat} (H : PAt h q cs off v) : cellV (rt g v) = true := by
  cases v <;> simp only [PAt] at H <;> rfl
theorem PAt_rt {g : Bool} {v : PV} {off : Nat} (H : PAt h (γ.q g) cs off v) : RAt fid γ h cs off (rt g v) := by
  cases v <;> simp only [PAt, rt, RAt] at H ⊢ <;> exact H
theorem PCells_rt {g : Bool} : ∀ {l : List PV} {off : Nat}, PCells h (γ.q g) cs off l → RCells fid γ h cs off (l.map (rt g))
  | [], _, _ => by simp only [List.map_nil, RCells]
  | v :: r, off, H => by
    simp only [PCells] at H
    simp only [List.map_cons, RCells, wd_rt]
    exact ⟨⟨cellV_rt H.1, PAt_rt H.1⟩, PCells_rt H.2⟩
theorem PAt_there {v : PV} {off : Nat} (H : PAt h q cs off v) : ∀ i, i < wd v → off + i < cs.size := by
  have hs : ∀ {x : Value}, cs[off]? = some x → off < cs.size := fun e => (Array.getElem?_eq_some_iff.1 e).1
  intro i hi
  cases v <;> simp only [PAt, wd] at H hi
  case b => have := hs H; omega
  case i => have := hs H; omega
  case s => obtain ⟨_, e, _⟩ := H; have := hs e; omega
  case l => obtain ⟨_, _, e, _⟩ := H; have := hs e; omega
  case blob n xs =>
    obtain ⟨v, hv, _⟩ := H.2 i (xs[i]'(by omega)) (List.getElem?_eq_getElem (by omega))
    exact (Array.getElem?_eq_some_iff.1 hv).1
theorem PCells_there : ∀ {l : List PV} {off : Nat}, PCells h q cs off l → ∀ i, i < wds l → off + i < cs.size
  | [], _, _, i, hi => by simp [wds] at hi
  | v :: r, off, H, i, hi => by
    simp only [PCells] at H
    simp only [wds] at hi
    by_cases hv : i < wd v
    · exact PAt_there H.1 i hv
    · have := PCells_there H.2 (i - wd v) (by omega); omega
theorem PEls_get {w : Nat} : ∀ {l : List (List PV)} {off : Nat}, PEls h q cs w off l → ∀ (i : Nat) (x : List PV), l[i]? = some x → wds x = w ∧ PCells h q cs (off + i * w) x
  | [], _, _, i, x, hx => by simp at hx
  | y :: r, off, H, i, x, hx => by
    simp only [PEls] at H
    rcases i with _ | i
    · simp at hx; subst hx; simpa using ⟨H.1, H.2.1⟩
    · have := PEls_get H.2.2 i x (by simpa using hx)
      refine ⟨this.1, ?_⟩
      have e : off + w + i * w = off + (i + 1) * w := by rw [Nat.succ_mul]; omega
      rw [← e]; exact this.2
theorem REls_get {w : Nat} : ∀ {l : List (List PV)} {off : Nat}, REls fid γ h cs w off l → ∀ (i : Nat) (x : List PV), l[i]? = some x → wds x = w ∧ RCells fid γ h cs (off + i * w) x
  | [], _, _, i, x, hx => by simp at hx
  | y :: r, off, H, i, x, hx => by
    simp only [REls] at H
    rcases i with _ | i
    · simp at hx; subst hx; simpa using ⟨H.1, H.2.1⟩
    · have := REls_get H.2.2 i x (by simpa using hx)
      refine ⟨this.1, ?_⟩
      have e : off + w + i * w = off + (i + 1) * w := by rw [Nat.succ_mul]; omega
      rw [← e]; exact this.2
theorem PEls_of {w : Nat} : ∀ {l : List (List PV)} {off : Nat}, (∀ (i : Nat) (x : List PV), l[i]? = some x → wds x = w ∧ PCells h q cs (off + i * w) x) → PEls h q cs w off l
  | [], _, _ => by simp only [PEls]
  | y :: r, off, H => by
    simp only [PEls]
    refine ⟨(H 0 y (by simp)).1, by simpa using (H 0 y (by simp)).2, PEls_of fun i x hx => ?_⟩
    have := H (i + 1) x (by simpa using hx)
    have e : off + w + i * w = off + (i + 1) * w := by rw [Nat.succ_mul]; omega
    rw [e]; exact this
theorem REls_of {w : Nat} : ∀ {l : List (List PV)} {off : Nat}, (∀ (i : Nat) (x : List PV), l[i]? = some x → wds x = w ∧ RCells fid γ h cs (off + i * w) x) → REls fid γ h cs w off l
  | [], _, _ => by simp only [REls]
  | y :: r, off, H => by
    simp only [REls]
    refine ⟨(H 0 y (by simp)).1, by simpa using (H 0 y (by simp)).2, REls_of fun i x hx => ?_⟩
    have := H (i + 1) x (by simpa using hx)
    have e : off + w + i * w = off + (i + 1) * w := by rw [Nat.succ_mul]; omega
    rw [e]; exact this
end
theorem add_none (b o i : Nat) : (⟨b, o, none⟩ : Addr).add i = ⟨b, o + i, none⟩ := by unfold Addr.add; split <;> simp_all
section
variable {P : Program} {w : World} {b : Nat} {cs : Array Value}
theorem cell_rowAt (H : rowAt w.heap b cs) (o : Nat) : w.cell? ⟨b, o, none⟩ = cs[o]? := by
  obtain ⟨t, fr, H⟩ := H; simp [World.cell?, H]
theorem run_loadCells_rowAt (H : rowAt w.heap b cs) {o n : Nat} (hn : o + n ≤ cs.size) : (loadCells ⟨b, o, none⟩ n).run P w = .ok (cs.extract o (o + n)) w := by
  have hl : (cs.extract o (o + n)).toList.length = n := by simp; omega
  have := run_loadCells_list (P := P) w ⟨b, o, none⟩ (cs.extract o (o + n)).toList (fun j v hv => by
    rw [add_none, cell_rowAt H]
    have hj : j < n := by
      have := (List.getElem?_eq_some_iff.1 hv).1
      omega
    simp only [Array.getElem?_toList, Array.getElem?_extract] at hv
    split at hv
    · exact hv
    · cases hv)
  rw [hl, Array.toArray_toList] at this
  exact this
theorem getElem?_extract' {cs : Array Value} {o n i : Nat} (hi : i < n) (hn : o + n ≤ cs.size) : (cs.extract o (o + n))[i]? = cs[o + i]? := by
  rw [Array.getElem?_extract]
  split
  · rfl
  · rename_i h; omega
end
end
section
open Go
section
variable {P : Program}
theorem known_some {t : TypeId} (h : known P t = true) : ∃ d, P.underlying t = some d := by
  simpa [known, Option.isSome_iff_exists] using h
theorem info_of {t : TypeId} {d : TypeDesc} (h : P.underlying t = some d) : ∃ i, P.info? t = some i := by
  cases hi : P.info? t with
  | some i => exact ⟨i, rfl⟩
  | none => simp [Program.underlying, hi] at h
theorem run_underlying' {t : TypeId} {d : TypeDesc} (h : P.underlying t = some d) (w : World) : (underlying t).run P w = .ok d w := by
  simp [underlying, h]
theorem run_sizeOf' {t : TypeId} {d : TypeDesc} (h : P.underlying t = some d) (w : World) : (sizeOf t).run P w = .ok (P.cellsOf t) w := by
  obtain ⟨i, hi⟩ := info_of h
  simp [sizeOf, typeInfo, hi, Program.cellsOf]
theorem run_isAgg' {t : TypeId} {d : TypeDesc} (h : P.underlying t = some d) (w : World) : (isAgg t).run P w = .ok (aggT P t) w := by
  simp only [isAgg, Sem.run_bind, run_underlying' h, Result.andThen_ok, aggT, h]
  cases d <;> rfl
end
section
variable {fid : Nat → Nat} {γ : Gh} {h : Array Obj}
@[simp] theorem RV_b {x : Value} {v : Bool} : RV fid γ h x (.b v) ↔ x = .bool v := by simp [RV, RAt]
@[simp] theorem RV_i {x : Value} {k : IntKind} {n : Int} : RV fid γ h x (.i k n) ↔ x = .int k n := by simp [RV, RAt]
theorem RV_s {x : Value} {l : List UInt8} : RV fid γ h x (.s l) ↔ ∃ s, x = .string s ∧ s.data.toList = l := by simp [RV, RAt]
theorem RV_np {x : Value} : RV fid γ h x .np ↔ x = .pointer none := by simp [RV, RAt]
theorem RV_ub {x : Value} : RV fid γ h x .ub ↔ ∃ b, x = .bool b := by simp [RV, RAt]
theorem RV_b_or {b : Bool} {v : PV} (hv : v = .b b ∨ v = .ub) : RV fid γ h (.bool b) v := by
  rcases hv with rfl | rfl
  · simp [RV, RAt]
  · exact RV_ub.2 ⟨b, rfl⟩
theorem RV_nf {x : Value} : RV fid γ h x .nf ↔ x = .nilFunc := by simp [RV, RAt]
theorem RV_m {x : Value} {o : Nat} : RV fid γ h x (.m o) ↔ ∃ i, γ.mu o = some i ∧ ∃ a, x = .map a ∧ (0 = i.ver → ∃ b, i.blk = some b ∧ a = some b) := by simp [RV, RAt]
theorem RV_ifc {x : Value} {t : Nat} {v : PV} : RV fid γ h x (.ifc t v) ↔ ∃ y, x = .iface t y ∧ RV fid γ h y v := by simp [RV, RAt]
theorem RV_ni {x : Value} : RV fid γ h x .ni ↔ x = .nilIface := by simp [RV, RAt]
theorem RV_nm {x : Value} : RV fid γ h x .nm ↔ x = .map none := by simp [RV, RAt]
theorem RV_un {x : Value} : RV fid γ h x .un := by simp [RV, RAt]
theorem RV_agg {x : Value} {xs : List PV} : RV fid γ h x (.agg xs) ↔ ∃ arr, x = .agg arr ∧ arr.size = wds xs ∧ RCells fid γ h arr 0 xs := by simp [RV, RAt]
theorem RV_tup {x : Value} {xs : List PV} : RV fid γ h x (.tup xs) ↔ ∃ arr, x = .tuple arr ∧ arr.size = xs.length ∧ RL fid γ h arr 0 xs := by simp [RV, RAt]
theorem RV_fn {x : Value} {f : Nat} {a b : List PV} : RV fid γ h x (.fn f a b) ↔ ∃ f0 a1 a2, x = .func (.func f0) a1 a2 ∧ fid f0 = f ∧ (a1.size = a.length ∧ RL fid γ h a1 0 a) ∧ a2.size = b.length ∧ RL fid γ h a2 0 b := by simp [RV, RAt]
theorem RV_p {x : Value} {o ver j o' : Nat} {bi : Option Nat} : RV fid γ h x (.p o ver j o' bi) ↔ ∃ i, γ.mu o = some i ∧ ver ≤ i.ver ∧ ∃ a, x = .pointer (some a) ∧ (ver = i.ver → ∃ b, i.blk = some b ∧ a = ⟨b, j * i.w + o' + bi.getD 0, none⟩) := by simp [RV, RAt]
theorem RV_q {x : Value} {g : Bool} {xs : List PV} {bi : Option Nat} : RV fid γ h x (.q g xs bi) ↔ ∃ b o cs', x = .pointer (some ⟨b, o + bi.getD 0, none⟩) ∧ γ.q g b ∧ rowAt h b cs' ∧ PCells h (γ.q g) cs' o xs := by simp [RV, RAt]
theorem RV_l {x : Value} {g : Bool} {xs : List (List PV)} : RV fid γ h x (.l g xs) ↔ ∃ a c, x = .slice a xs.length c ∧ xs.length ≤ c ∧ (xs = [] ∨ ∃ b o w cs', a = some ⟨b, o, none⟩ ∧ γ.q g b ∧ rowAt h b cs' ∧ PEls h (γ.q g) cs' w o xs) := by simp [RV, RAt, PAt]
theorem RV_ln {x : Value} {g : Bool} {xs : List (List PV)} : RV fid γ h x (.ln g xs) ↔ RV fid γ h x (.l g xs) ∧ ∃ a n c, x = .slice (some a) n c := by simp [RV, RAt]
theorem RV_e {x : Value} {nil : Bool} : RV fid γ h x (.e nil) ↔ ∃ a, x = .slice a 0 0 ∧ (a = none ↔ nil = true) := by simp [RV, RAt]
theorem RV_sl {x : Value} {o ver lo n : Nat} : RV fid γ h x (.sl o ver lo n) ↔ ∃ i, γ.mu o = some i ∧ ver ≤ i.ver ∧ ∃ a c, x = .slice a n c ∧ (ver = i.ver → HSl i lo n a c) := by simp [RV, RAt]
theorem RV_bs {x : Value} {o o' lo n : Nat} : RV fid γ h x (.bs o o' lo n) ↔ ∃ i, γ.mu o = some i ∧ ∃ a c, x = .slice (some a) n c ∧ n ≤ c ∧ (0 = i.ver → 0 < c → ∃ b, i.blk = some b ∧ a = ⟨b, o' + lo, none⟩) := by simp [RV, RAt]
theorem RV_scal {x : Value} {v : PV} (hs : scal v = true) (H : scalR v x) : RV fid γ h x v := by
  cases v <;> simp only [scal, Bool.false_eq_true] at hs <;> simp only [scalR] at H
  · simpa using H
  · simpa using H
  · exact RV_s.2 H
theorem scalR_scal {x : Value} {v : PV} (H : scalR v x) : scal v = true := by cases v <;> simp_all [scalR, scal]
theorem RV_flatL {x : Value} {g : Bool} {xs : List (List PV)} (H : RV fid γ h x (.l g xs)) : RV fid γ h x (.l false xs) := by
  rw [RV_l] at H ⊢
  obtain ⟨a, c, e, hc, H⟩ := H
  have hq : ∀ b, γ.q g b → γ.q false b ∧ h[b]? = h[b]? := fun b hb => ⟨⟨hb.1, by simp⟩, rfl⟩
  refine ⟨a, c, e, hc, H.imp id ?_⟩
  rintro ⟨b, o, w, cs', e1, e2, e3, e4⟩
  exact ⟨b, o, w, cs', e1, (hq b e2).1, e3, PEls_mono hq _ _ _ _ e4⟩
theorem RL_get : ∀ {l : List PV} {arr : Array Value} {off : Nat} (k : Nat) (v : PV), RL fid γ h arr off l → l[k]? = some v → ∃ x, arr[off + k]? = some x ∧ RV fid γ h x v
  | [], _, _, _, _, _, e => by simp at e
  | y :: r, arr, off, 0, v, H, e => by simp only [RL] at H; simp at e; subst e; exact H.1
  | y :: r, arr, off, k + 1, v, H, e => by
    simp only [RL] at H
    have := RL_get (off := off + 1) k v H.2 (by simpa using e)
    rwa [show off + 1 + k = off + (k + 1) by omega] at this
end
section
variable {P : Program} {E : Env} {C : Ctx} {γ : Gh} {w : World} {a : Act} {sl : SL} {ob : OB}
theorem RV_const {fid : Nat → Nat} (h : Array Obj) (v : Value) : RV fid γ h v (constP v) := by
  unfold constP
  split <;> first
    | exact RV_un
    | (simp [RV, RAt])
variable (hE : E.fid = C.fid) (hG : E.glob = C.glob) (S : St C γ w a.tmps sl ob)
include hE hG S
theorem ev_ok (x : Operand) : RV C.fid γ w.heap (a.eval x) (ev E sl x) := by
  cases x with
  | tmp t => exact S.slot t
  | const v => exact RV_const _ v
  | global g =>
    simp only [ev, Act.eval]
    cases hg : E.glob g with
    | none => exact RV_un
    | some xs =>
      obtain ⟨h1, cs, h2, h3⟩ := S.glob g xs (by rw [← hG]; exact hg)
      exact RV_q.2 ⟨g, 0, cs, by simp, h1, h2, h3⟩
  | func f => exact RV_fn.2 ⟨f, #[], #[], rfl, by rw [hE], ⟨rfl, by simp [RL]⟩, rfl, by simp [RL]⟩
theorem evs_ok : ∀ (l : List Operand), RL C.fid γ w.heap (l.map a.eval).toArray 0 (evs E sl l) := by
  have key : ∀ (l : List Operand) (pre : List Value), RL C.fid γ w.heap (pre ++ l.map a.eval).toArray pre.length (evs E sl l) := by
    intro l
    induction l with
    | nil => intro pre; simp [evs, RL]
    | cons x r ih =>
      intro pre
      simp only [evs, RL]
      refine ⟨⟨a.eval x, by simp, ev_ok hE hG S x⟩, ?_⟩
      have := ih (pre ++ [a.eval x])
      simpa using this
  intro l
  have := key l []
  simpa using this
omit hE hG S in
theorem evs_len (l : List Operand) : (evs E sl l).length = l.length := by
  induction l with
  | nil => rfl
  | cons x r ih => simp [evs, ih]
omit hE hG
theorem atO_ok {x : Value} {o ver i off : Nat} {cells : List PV} (hx : RV C.fid γ w.heap x (.p o ver i off none)) (H : atO (getO ob o) ver i off = some cells) :
    ∃ b o' cs, x = .pointer (some ⟨b, o', none⟩) ∧ rowAt w.heap b cs ∧ RCells C.fid γ w.heap cs o' cells ∧ (0 < wds cells → o' + wds cells ≤ cs.size) := by
  rw [RV_p] at hx
  obtain ⟨I, hI, hv, ad, ex, hx⟩ := hx
  cases ho : getO ob o with
  | none => simp [ho, atO] at H
  | some X =>
    simp only [ho, atO] at H
    split at H
    · rename_i hver
      obtain ⟨I', hI', h1, h2, h3, h4⟩ := S.obj o X ho
      rw [hI] at hI'; injection hI' with hI'; subst hI'
      obtain ⟨b, hb, ea⟩ := hx (by omega)
      simp only [hb] at h4
      obtain ⟨hw, cs, hown, hsz, hels⟩ := h4
      cases hel : X.els[i]? with
      | none => simp [hel, atE] at H
      | some el =>
        simp only [hel, atE, Option.map_eq_some_iff] at H
        obtain ⟨r, hr, hc⟩ := H
        obtain ⟨pre, e, hp⟩ := dropW_suf hr
        have hi : i < X.els.length := (List.getElem?_eq_some_iff.1 hel).1
        replace hown := (hown.cells (.inl fun e0 => by rw [e0] at hel; simp at hel)).2
        have hmul : i * I.w + I.w ≤ cs.size := by
          have : (i + 1) * I.w ≤ I.tot * I.w := Nat.mul_le_mul_right _ (by omega)
          rw [Nat.succ_mul] at this; omega
        have key : wds el = I.w ∧ RCells C.fid γ w.heap cs (i * I.w + off) cells ∧ wds cells = wds r := by
          rcases hels with ⟨hp', hels⟩ | ⟨hp', hels⟩
          · have := PEls_get hels i el hel
            simp only [Nat.zero_add] at this
            refine ⟨this.1, ?_, by rw [← hc, hp']; simp [wds_rt]⟩
            rw [e, PCells_app, hp] at this
            rw [← hc, hp']; exact PCells_rt this.2.2
          · have := REls_get hels i el hel
            simp only [Nat.zero_add] at this
            refine ⟨this.1, ?_, by rw [← hc, hp']; simp⟩
            rw [e, RCells_app, hp] at this
            rw [← hc, hp']; simpa using this.2.2
        refine ⟨b, i * I.w + off, cs, by rw [ex, ea]; simp, hown.row, key.2.1, ?_⟩
        rw [key.2.2]
        intro _
        have := key.1
        rw [e, wds_app, hp] at this
        omega
    · cases H
theorem atP_ok {x : Value} {v : PV} {cells : List PV} (hx : RV C.fid γ w.heap x v) (H : atP ob v = some cells) :
    ∃ b o' cs, x = .pointer (some ⟨b, o', none⟩) ∧ rowAt w.heap b cs ∧ RCells C.fid γ w.heap cs o' cells ∧ (0 < wds cells → o' + wds cells ≤ cs.size) := by
  unfold atP at H
  split at H
  · exact atO_ok S hx H
  · rename_i g xs
    injection H with H; subst H
    rw [RV_q] at hx
    obtain ⟨b, o, cs, e, hb, hr, hc⟩ := hx
    refine ⟨b, o, cs, by simpa using e, hr, PCells_rt hc, ?_⟩
    rw [wds_rt]
    intro hpos
    have := PCells_there hc (wds xs - 1) (by omega); omega
  · cases H
omit S
theorem hd1_ok {cells : Option (List PV)} {v : PV} (H : hd1 cells = some v) : ∃ r, cells = some (v :: r) ∧ wd v = 1 := by
  unfold hd1 at H
  split at H
  · cases H
  · rename_i u r hn
    injection H with H; subst H
    refine ⟨r, rfl, ?_⟩
    cases u <;> first | rfl | exact (hn _ _ rfl).elim
  · cases H
theorem blobAt_ok {cells : Option (List PV)} {xs : List PV} (H : blobAt cells = some xs) : ∃ n r, cells = some (.blob n xs :: r) := by
  unfold blobAt at H
  split at H
  · rename_i n xs' r
    injection H with H; subst H; exact ⟨n, r, rfl⟩
  · cases H
theorem head_cell {o' : Nat} {cs : Array Value} {v : PV} {r : List PV} (hc : RCells C.fid γ w.heap cs o' (v :: r)) (hw : wd v = 1) (hs : 0 < wds (v :: r) → o' + wds (v :: r) ≤ cs.size) :
    ∃ y, cs[o']? = some y ∧ RV C.fid γ w.heap y v := by
  simp only [wds, hw] at hs
  have hlt : o' < cs.size := by have := hs (by omega); omega
  simp only [RCells] at hc
  exact ⟨cs[o'], Array.getElem?_eq_getElem hlt, RV.of (Array.getElem?_eq_getElem hlt) (by omega) hc.1.2⟩
theorem blob_cell {o' k : Nat} {cs : Array Value} {n : Nat} {xs r : List PV} {v : PV} (hc : RCells C.fid γ w.heap cs o' (.blob n xs :: r)) (hk : xs[k]? = some v) :
    ∃ y, cs[o' + k]? = some y ∧ RV C.fid γ w.heap y v := by
  simp only [RCells, RAt] at hc
  obtain ⟨y, hy, hs⟩ := hc.1.2.2 k v hk
  exact ⟨y, hy, RV_scal (scalR_scal hs) hs⟩
theorem aggO_takeO {c : Option (List PV)} {n : Nat} {v : PV} (H : aggO (takeO c n) = some v) : ∃ cells fr, c = some cells ∧ takeW cells n = some fr ∧ v = .agg fr := by
  cases c with
  | none => simp [takeO, aggO] at H
  | some cells =>
    simp only [takeO] at H
    cases ht : takeW cells n with
    | none => simp [ht, aggO] at H
    | some fr => simp only [ht, aggO, Option.some.injEq] at H; exact ⟨cells, fr, rfl, ht, H.symm⟩
include S
theorem l1_ok {x : Value} {av v : PV} {t : TypeId} (hx : RV C.fid γ w.heap x av) (hk : known P t = true) (ha : aggT P t = false) (H : l1 ob av = some v) :
    ∃ y, (Instr.loadAt t x).run P w = .ok y w ∧ RV C.fid γ w.heap y v := by
  obtain ⟨d, hd⟩ := known_some hk
  have fin : ∀ {b o' : Nat} {cs : Array Value} {y : Value}, rowAt w.heap b cs → cs[o']? = some y → (Instr.loadAt t (.pointer (some ⟨b, o', none⟩))).run P w = .ok y w := by
    intro b o' cs y hr hy
    simp [Instr.loadAt, Instr.sureAddr, loadVar, run_isAgg' hd, ha, cell_rowAt hr, hy]
  unfold l1 at H
  split at H
  · rename_i o ver i off
    obtain ⟨r, hr, hw⟩ := hd1_ok H
    obtain ⟨b, o', cs, e, hrow, hc, hs⟩ := atO_ok S hx hr
    obtain ⟨y, hy, hv⟩ := head_cell hc hw hs
    exact ⟨y, by rw [e]; exact fin hrow hy, hv⟩
  · rename_i o ver i off k
    cases hb : blobAt (atO (getO ob o) ver i off) with
    | none => simp [hb, nthB] at H
    | some xs =>
      simp only [hb, nthB] at H
      obtain ⟨n, r, hr⟩ := blobAt_ok hb
      have hx' : ∃ a, x = .pointer (some a) ∧ RV C.fid γ w.heap (.pointer (some ⟨a.block, a.off - k, none⟩)) (.p o ver i off none) ∧ (∀ I X, γ.mu o = some I → getO ob o = some X → X.ver = ver → a.spot = none ∧ k ≤ a.off) := by
        rw [RV_p] at hx
        obtain ⟨I, hI, hv, ad, ex, hx⟩ := hx
        refine ⟨ad, ex, RV_p.2 ⟨I, hI, hv, _, rfl, fun e => ?_⟩, fun I' X hI' hX hXv => ?_⟩
        · obtain ⟨b, hb, ea⟩ := hx e
          exact ⟨b, hb, by rw [ea]; simp⟩
        · obtain ⟨I2, hI2, h1, _⟩ := S.obj o X hX
          rw [hI] at hI2; injection hI2 with hI2; subst hI2
          obtain ⟨b, hb, ea⟩ := hx (by omega)
          rw [ea]; simp
      obtain ⟨ad, ex, hx', hh⟩ := hx'
      obtain ⟨b, o', cs, e, hrow, hc, hs⟩ := atO_ok S hx' hr
      obtain ⟨y, hy, hv⟩ := blob_cell hc H
      have hver : ∃ I X, γ.mu o = some I ∧ getO ob o = some X ∧ X.ver = ver := by
        cases ho : getO ob o with
        | none => simp [ho, atO] at hr
        | some X =>
          simp only [ho, atO] at hr
          split at hr
          · rename_i hver
            obtain ⟨I, hI, _⟩ := S.obj o X ho
            exact ⟨I, X, hI, rfl, hver⟩
          · cases hr
      obtain ⟨I, X, h1, h2, h3⟩ := hver
      obtain ⟨hsp, hle⟩ := hh I X h1 h2 h3
      refine ⟨y, ?_, hv⟩
      injection e with e; injection e with e
      have : ad = ⟨b, o' + k, none⟩ := by
        cases ad with
        | mk bl of sp =>
          simp only at hsp hle
          simp only [Addr.mk.injEq] at e
          obtain ⟨e1, e2, _⟩ := e
          simp only [Addr.mk.injEq]
          exact ⟨e1, by omega, hsp⟩
      rw [ex, this]; exact fin hrow hy
  · rename_i g xs
    obtain ⟨r, hr, hw⟩ := hd1_ok H
    injection hr with hr
    obtain ⟨b, o', cs, e, hrow, hc, hs⟩ := atP_ok S hx (cells := xs.map (rt g)) (by simp [atP])
    rw [hr] at hc hs
    obtain ⟨y, hy, hv⟩ := head_cell hc hw hs
    exact ⟨y, by rw [e]; exact fin hrow hy, hv⟩
  · rename_i g xs k
    cases hb : blobAt (some xs) with
    | none => simp [hb, nthB] at H
    | some ys =>
      simp only [hb, nthB] at H
      obtain ⟨n, r, hr⟩ := blobAt_ok hb
      injection hr with hr
      rw [RV_q] at hx
      obtain ⟨b, o, cs, e, hq, hrow, hc⟩ := hx
      rw [hr] at hc
      simp only [PCells, PAt] at hc
      obtain ⟨y, hy, hs⟩ := hc.1.2 k v H
      exact ⟨y, by rw [e]; exact fin hrow (by simpa using hy), RV_scal (scalR_scal hs) hs⟩
  · cases H
theorem lN_ok {x : Value} {av v : PV} {t : TypeId} (hx : RV C.fid γ w.heap x av) (hk : known P t = true) (ha : aggT P t = true) (H : lN ob (P.cellsOf t) av = some v) :
    ∃ y, (Instr.loadAt t x).run P w = .ok y w ∧ RV C.fid γ w.heap y v := by
  obtain ⟨d, hd⟩ := known_some hk
  obtain ⟨cells, fr, hc, ht, rfl⟩ := aggO_takeO H
  obtain ⟨b, o', cs, e, hrow, hcs, hs⟩ := atP_ok S hx hc
  obtain ⟨c, e', hw⟩ := takeW_pre ht
  have hsz : P.cellsOf t = 0 ∨ o' + P.cellsOf t ≤ cs.size := by
    rcases Nat.eq_zero_or_pos (P.cellsOf t) with h | h
    · exact .inl h
    · have h1 := wds_app fr c
      rw [← e', hw] at h1
      have := hs (by omega)
      exact .inr (by omega)
  rw [e', RCells_app] at hcs
  refine ⟨.agg (cs.extract o' (o' + P.cellsOf t)), ?_, ?_⟩
  · rw [e]
    have hl : (loadCells ⟨b, o', none⟩ (P.cellsOf t)).run P w = .ok (cs.extract o' (o' + P.cellsOf t)) w := by
      rcases hsz with h | h
      · rw [h]; simp [loadCells, loadCellsFrom]; exact Nat.min_le_left _ _
      · exact run_loadCells_rowAt hrow h
    simp [Instr.loadAt, Instr.sureAddr, loadVar, run_isAgg' hd, ha, run_sizeOf' hd, hl]
  · refine RV_agg.2 ⟨_, rfl, ?_, ?_⟩
    · rw [hw]; simp; omega
    · refine RCells_at ?_ hcs.1
      intro i y hi hy
      rw [hw] at hi
      rw [Nat.zero_add, getElem?_extract' hi (by omega)]
      exact hy
end
end
end Go.Proofs.Ytnkapponcbgbhaa
